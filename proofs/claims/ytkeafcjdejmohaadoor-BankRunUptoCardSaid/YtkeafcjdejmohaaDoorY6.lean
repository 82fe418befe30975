/- Plain: what a bank tells again; what is no request. -/
import Derived.Test.YtkeafcjdejmohaaDoorM25
import Derived.Test.YtkeafcjdejmohaaDoorGS
import Derived.Test.YtkeafcjdejmohaaDoorGY
namespace Go.Proofs.YtkeafcjdejmohaaDoor.A
open Go Q
/-- What is known of a bank: all is told; keys are numbers of a byte, each there once. -/
structure KnsI (ks : List Kno) : Prop where
  told : ∀ k ∈ ks, k.told = true
  keys : ∀ k ∈ ks, 0 ≤ k.req.key ∧ k.req.key ≤ 255
  nd : (ks.map fun k => k.req.key).Nodup
  b : ∀ k ∈ ks, k.req.b ≤ 14
theorem KnsI.room {ks : List Kno} (h : KnsI ks) {key : Int} (hk : 0 ≤ key ∧ key ≤ 255) (hn : ∀ k ∈ ks, k.req.key ≠ key) : ks.length < 256 := by
  have h1 : (key :: ks.map fun k => k.req.key).Nodup := List.nodup_cons.2 ⟨fun hm => by
    obtain ⟨k, hk1, hk2⟩ := List.mem_map.1 hm
    exact hn k hk1 hk2, h.nd⟩
  have := nodup_len (N := 256) h1 (fun x hx => by
    rcases List.mem_cons.1 hx with rfl | hx
    · omega
    · obtain ⟨k, hk1, rfl⟩ := List.mem_map.1 hx
      have := h.keys k hk1; omega)
  simp at this; omega
theorem AskI.may {r : Req} (h : AskI r) : mayR r = true := by
  refine mayR_yes (by have := h.k; omega) h.l (by have := h.u; omega) (fun hl => ?_) (fun h0 => by have := h.a0 h0; omega) h.o (amountB_iff.2 (by have := h.n; omega))
  by_cases h2 : r.op = 2
  · exact h2
  · have := h.l2 h2; omega
theorem bank_new {s : Sta} {r : Req} (legs : List Bool) (hm : mayR r = true) (h : findK s.kns r.key 0 = -1) (hl : s.kns.length < 256) : bankM s r legs = (withK (bankOut s r legs).1 (s.kns ++ [⟨r, (bankOut s r legs).2.1.1, (bankOut s r legs).2.1.2, true⟩]), (bankOut s r legs).2.1, (bankOut s r legs).2.2) := by
  unfold bankM
  rw [if_neg (by simp [hm]), ask_none h, if_neg (by decide)]
  simp only [put_none h hl]
theorem bank_old {s : Sta} {r : Req} (legs : List Bool) (hm : mayR r = true) {i : Nat} {k : Kno} (h1 : findK s.kns r.key 0 = i) (h2 : s.kns[i]? = some k) (ht : k.told = true) : bankM s r legs = (s, if k.req = r then (k.err, k.id) else (5, 0), 0) := by
  unfold bankM
  rw [if_neg (by simp [hm]), ask_known h1 h2 ht, if_pos rfl]
theorem kns_snoc {ks : List Kno} (h : KnsI ks) {r : Req} (hr : AskI r) (hn : ∀ k ∈ ks, k.req.key ≠ r.key) (e i : Int) : KnsI (ks ++ [⟨r, e, i, true⟩]) := by
  refine ⟨fun k hk => ?_, fun k hk => ?_, ?_, fun k hk => ?_⟩
  · rcases List.mem_append.1 hk with hk | hk
    · exact h.told k hk
    · rw [List.mem_singleton.1 hk]
  · rcases List.mem_append.1 hk with hk | hk
    · exact h.keys k hk
    · rw [List.mem_singleton.1 hk]; exact hr.k
  · rw [List.map_append, List.nodup_append]
    refine ⟨h.nd, by simp, fun x hx y hy => ?_⟩
    obtain ⟨k, hk, rfl⟩ := List.mem_map.1 hx
    have : y = r.key := by simpa using hy
    rw [this]; exact hn k hk
  · rcases List.mem_append.1 hk with hk | hk
    · exact h.b k hk
    · rw [List.mem_singleton.1 hk]; exact hr.b.2
def otherR (r : Req) : Req := ⟨r.key, r.op, r.a, w64 (r.b + 1000), r.amt, r.legs, r.til⟩
theorem again_law {s : Sta} (h : KnsI s.kns) {r : Req} (hr : AskI r) (legs : List Bool) :
    KnsI (bankM s r legs).1.kns ∧ bankM (bankM s r legs).1 r legs = ((bankM s r legs).1, (bankM s r legs).2.1, 0) ∧ bankM (bankM s r legs).1 (otherR r) legs = ((bankM s r legs).1, (5, 0), 0) := by
  have hm := hr.may
  have hb := hr.b
  have ew : w64 (r.b + 1000) = r.b + 1000 := w64_of (by omega) (by omega)
  have hm2 : mayR (otherR r) = true := hm
  rcases find_cases s.kns r.key with ⟨h1, h2⟩ | ⟨i, k, h1, h2, h3, -⟩
  · have hl := h.room hr.k h2
    rw [bank_new legs hm h1 hl]
    generalize bankOut s r legs = o
    have hks := kns_snoc h hr h2 o.2.1.1 o.2.1.2
    have hf := find_last (ks := s.kns) (x := ⟨r, o.2.1.1, o.2.1.2, true⟩) h2
    have hf : findK (s.kns ++ [⟨r, o.2.1.1, o.2.1.2, true⟩]) r.key 0 = s.kns.length := hf
    have hg : (s.kns ++ [(⟨r, o.2.1.1, o.2.1.2, true⟩ : Kno)])[s.kns.length]? = some ⟨r, o.2.1.1, o.2.1.2, true⟩ := by simp
    refine ⟨hks, ?_, ?_⟩ <;> simp only
    · rw [bank_old (s := withK o.1 (s.kns ++ [(⟨r, o.2.1.1, o.2.1.2, true⟩ : Kno)])) legs hm hf hg rfl, if_pos rfl]
    · rw [bank_old (s := withK o.1 (s.kns ++ [(⟨r, o.2.1.1, o.2.1.2, true⟩ : Kno)])) (r := otherR r) legs hm2 hf hg rfl, if_neg]
      intro e
      have : r.b = w64 (r.b + 1000) := congrArg Req.b e
      omega
  · have ht := h.told k (List.mem_of_getElem? h2)
    have hkb := h.b k (List.mem_of_getElem? h2)
    rw [bank_old legs hm h1 h2 ht]
    refine ⟨h, bank_old legs hm h1 h2 ht, ?_⟩
    rw [bank_old (r := otherR r) legs hm2 h1 h2 ht, if_neg]
    intro e
    have : k.req.b = w64 (r.b + 1000) := congrArg Req.b e
    omega
theorem whole_err {s : Sta} {r : Req} (hA : Acs s.accs) (legs : List Bool) (h : (wholeM s r legs).2.1.1 ≠ 0) : (wholeM s r legs).1 = s := by
  unfold wholeM at h ⊢
  split
  · rfl
  · rename_i t hR
    simp only [hR] at h
    have hu := undo_reserve hA hR
    split
    · rename_i h0
      rw [if_pos h0] at h
      split
      · rename_i u hS
        simp only [hS] at h
        exact absurd rfl h
      · exact hu
    · exact hu
theorem out_err {s : Sta} {r : Req} (hA : Acs s.accs) (legs : List Bool) (h : (bankOut s r legs).2.1.1 ≠ 0) : (bankOut s r legs).1 = s := by
  unfold bankOut at h ⊢
  split
  · rename_i hl
    rw [if_pos hl] at h
    exact whole_err hA legs h
  · rename_i hl
    rw [if_neg hl] at h
    exact (doM_step s r).err h
end Go.Proofs.YtkeafcjdejmohaaDoor.A
