/- Plain: what was told once is told again. -/
import Derived.Test.YtkeafcjdejmohaaGreatDoorY9
import Derived.Test.YtkeafcjdejmohaaGreatDoorGS
namespace Go.Proofs.YtkeafcjdejmohaaGreatDoor.A
open Go Q
/-- A request's answer stays. -/
def Rem (s : Sta) (r : Req) (o : Rep) : Prop := (mayR r = false ∧ o = (1, 0)) ∨ (mayR r = true ∧ ∃ k ∈ s.kns, k.req = r ∧ k.told = true ∧ (k.err, k.id) = o)
theorem find_keyD {ks : List Kno} (hd : KeyD (ks.map (·.req))) {j : Nat} {q : Kno} (hq : ks[j]? = some q) : findK ks q.req.key 0 = j := by
  have hf := find_at (key := q.req.key) (ks := ks) (i := j) (k := q) (o := 0) hq rfl (fun a x ha hx hk => by
    have := hd a j x.req q.req (by rw [List.getElem?_map, hx]; rfl) (by rw [List.getElem?_map, hq]; rfl) hk
    omega)
  omega
theorem Rem.again {s : Sta} (hE : EngS s) {r : Req} {o : Rep} (h : Rem s r o) {e : Evt} (he : e.req = r) : submitM s e = (s, o) := by
  unfold submitM
  rw [he]
  rcases h with ⟨hm, rfl⟩ | ⟨hm, k, hk, rfl, ht, rfl⟩
  · rw [if_pos hm]
  · rw [if_neg (by simp [hm])]
    obtain ⟨j, hj⟩ := List.mem_iff_getElem?.1 hk
    rw [ask_known (find_keyD hE.kd hj) hj ht, if_pos rfl]
    show (s, (if k.req = k.req then (k.err, k.id) else (5, 0))) = _
    rw [if_pos rfl]
theorem end_kept {s : Sta} (h : EngS s) {k : Nat} {g : Sag} (hg : s.sags[k]? = some g) (o : Rep) : ∀ x ∈ s.kns, x.told = true → x ∈ (endR s k g o).1.kns := by
  intro x hx ht
  obtain ⟨j, q, h1, h2, h3⟩ := h.wk k g hg
  have hte : tellM s.kns g.req.key o.1 o.2 = .ok (s.kns.set j ⟨q.req, o.1, o.2, true⟩) := by rw [← h2]; exact tell_at h.kd h1 h3 _ _
  unfold endR
  rw [hte]
  show x ∈ s.kns.set j _
  obtain ⟨i, hi⟩ := List.mem_iff_getElem?.1 hx
  refine List.mem_iff_getElem?.2 ⟨i, ?_⟩
  rw [List.getElem?_set]
  split
  · rename_i hij
    subst hij
    rw [h1] at hi
    obtain rfl := Option.some.inj hi
    rw [h3] at ht; cases ht
  · exact hi
theorem eng_kept {s : Sta} (h : EngS s) (e : Evt) : ∀ x ∈ s.kns, x.told = true → x ∈ (engM s e).1.kns := by
  intro x hx ht
  unfold engM
  split
  · unfold submitM
    split
    · exact hx
    split
    · exact hx
    split
    · exact hx
    split
    · exact hx
    rename_i l hp
    obtain ⟨rfl, -, -⟩ := put_ok hp
    split
    · split
      · exact List.mem_append_left _ hx
      · exact List.mem_append_left _ hx
    · exact List.mem_append_left _ hx
  split
  · unfold stepM
    split
    · exact hx
    split
    · exact hx
    rename_i g hg
    unfold stepG
    split
    · obtain ⟨u1, u2, u3, u4, -⟩ := undo_len s g.req
      exact end_kept (h.acc (t := undoD s g.req) (by rw [u1]; exact h.z.la) (by rw [u2]; exact h.z.lp) u3 u4) (by rw [u3]; exact hg) _ x (by rw [u4]; exact hx) ht
    split
    · split
      · rename_i t hs
        obtain ⟨u1, u2, u3, u4, -⟩ := settle_len hs
        exact end_kept (h.acc (t := t) (by rw [u1]; exact h.z.la) (by rw [u2]; exact h.z.lp) u3 u4) (by rw [u3]; exact hg) _ x (by rw [u4]; exact hx) ht
      · exact hx
    · exact hx
  split
  · show x ∈ (tickM s).kns
    rw [(tick_keep s).2.2.2]; exact hx
  · exact hx
theorem Rem.eng {s : Sta} (hE : EngS s) {r : Req} {o : Rep} (h : Rem s r o) (e : Evt) : Rem (engM s e).1 r o := by
  rcases h with h | ⟨hm, k, hk, h1, h2, h3⟩
  · exact .inl h
  · exact .inr ⟨hm, k, eng_kept hE e k hk h2, h1, h2, h3⟩
theorem rem_new {s : Sta} {e : Evt} (h10 : (submitM s e).2.1 ≠ 10) (h5 : (submitM s e).2.1 ≠ 5) (h7 : (submitM s e).2.1 ≠ 7) : Rem (submitM s e).1 e.req (submitM s e).2 := by
  unfold submitM at h10 h5 h7 ⊢
  split
  · rename_i hm
    exact .inl ⟨hm, rfl⟩
  rename_i hm
  have hm : mayR e.req = true := by simpa using hm
  rw [if_neg (by simp [hm])] at h10 h5 h7
  split
  · rename_i ha
    rw [if_pos ha] at h10 h5 h7
    refine .inr ⟨hm, ?_⟩
    rcases find_cases s.kns e.req.key with ⟨hf, -⟩ | ⟨i, k, hf, hk, -, -⟩
    · rw [ask_none hf] at ha; cases ha
    · unfold askM at h10 h5 ⊢
      rw [hf, if_neg (by omega), show ((i : Nat) : Int).toNat = i by omega, hk] at h10 h5 ⊢
      simp only at h10 h5 ⊢
      cases hq : reqB k.req e.req with
      | false =>
        rw [hq, if_pos rfl] at h5
        exact absurd rfl h5
      | true =>
        rw [hq, if_neg (by decide)] at h10
        cases ht : k.told with
        | false =>
          rw [ht] at h10
          exact absurd rfl h10
        | true => exact ⟨k, List.mem_of_getElem? hk, reqB_iff.1 hq, ht, by simp⟩
  rename_i ha
  rw [if_neg ha] at h10 h5 h7
  split
  · rename_i hl
    rw [if_pos hl] at h7
    exact absurd rfl h7
  rename_i hl
  rw [if_neg hl] at h10 h5 h7
  split
  · rename_i x hp
    rw [hp] at h5 h7
    unfold putKM at hp
    split at hp
    · cases hp; exact absurd rfl h5
    split at hp
    · cases hp; exact absurd rfl h7
    · cases hp
  rename_i l hp
  rw [hp] at h10 h5 h7
  simp only at h10 h5 h7
  split
  · rename_i hlg
    rw [if_pos hlg] at h10
    split
    · exact .inr ⟨hm, _, List.mem_append_right _ (List.mem_singleton.2 rfl), rfl, rfl, rfl⟩
    · rename_i t hr
      rw [hr] at h10
      exact absurd rfl h10
  · exact .inr ⟨hm, _, List.mem_append_right _ (List.mem_singleton.2 rfl), rfl, rfl, rfl⟩
theorem Rem.told {s : Sta} {e : Evt} (h0 : e.what = 0) (h10 : (engM s e).2.1 ≠ 10) (h5 : (engM s e).2.1 ≠ 5) (h7 : (engM s e).2.1 ≠ 7) : Rem (engM s e).1 e.req (engM s e).2 := by
  have hE : engM s e = submitM s e := by unfold engM; rw [if_pos h0]
  rw [hE] at h10 h5 h7 ⊢
  exact rem_new h10 h5 h7
/-! ### sixteen sagas -/
def limR (amt : Int) (i : Nat) : Req := ⟨i, 2, 9, 12, amt, 1, 0⟩
/-- The state of EngineLimit behind i requests that were taken. -/
def limS (s : Sta) (amt : Int) (i : Nat) : Sta := ⟨s.accs.set 9 ⟨0, 90000, i * amt⟩, s.pays, (List.range i).map (fun j => beginM (limR amt j)), (List.range i).map (fun j => ⟨limR amt j, 0, 0, false⟩), s.now⟩
theorem lim_find (amt : Int) (n i : Nat) (h : n ≤ i) : findK ((List.range n).map (fun j => (⟨limR amt j, 0, 0, false⟩ : Kno))) i 0 = -1 := by
  rcases find_cases ((List.range n).map (fun j => (⟨limR amt j, 0, 0, false⟩ : Kno))) i with ⟨hf, -⟩ | ⟨j, k, -, hk, hkey, -⟩
  · exact hf
  · exfalso
    obtain ⟨q, hq, rfl⟩ := List.mem_map.1 (List.mem_of_getElem? hk)
    have hq := List.mem_range.1 hq
    have : (q : Int) = i := hkey
    omega
theorem lim_may {amt : Int} (h : 1 ≤ amt ∧ amt ≤ 256) {i : Nat} (hi : i ≤ 22) : mayR (limR amt i) = true := by
  refine mayR_yes ⟨Int.natCast_nonneg i, by show (i : Int) < _; omega⟩ ⟨by show (0 : Int) ≤ 1; decide, by show (1 : Int) ≤ 4; decide⟩ ⟨by show (0 : Int) ≤ 0; decide, by show (0 : Int) ≤ 1073741824; decide⟩ (fun _ => rfl) (fun h => absurd (show (2 : Int) = 0 from h) (by decide)) ⟨by show (0 : Int) ≤ 2; decide, by show (2 : Int) ≤ 7; decide⟩ (amountB_iff.2 (by show 1 ≤ amt ∧ amt ≤ _; omega))
def b90 : Book := ⟨[], [90000, 90000, 90000, 90000], []⟩
def s90 : Sta := ⟨[⟨0, -180000, 0⟩, ⟨0, 0, 0⟩, ⟨0, 0, 0⟩, ⟨1, -90000, 0⟩, ⟨1, 0, 0⟩, ⟨1, 0, 0⟩, ⟨2, -90000, 0⟩, ⟨2, 0, 0⟩, ⟨2, 0, 0⟩, ⟨0, 90000, 0⟩, ⟨1, 90000, 0⟩, ⟨2, 90000, 0⟩, ⟨0, 90000, 0⟩, ⟨1, 0, 0⟩, ⟨0, 0, 0⟩], [], [], [], 0⟩
theorem lim_0 : stateM b90 [] 0 = s90 := by kernel_rfl
theorem lim_00 (amt : Int) : limS s90 amt 0 = s90 := by
  unfold limS
  rw [show (((0 : Nat) : Int) * amt) = 0 by simp]
  rfl
theorem lim_move (amt : Int) (h : 1 ≤ amt ∧ amt ≤ 256) (x : Int) : moveM (s90.accs.set 9 ⟨0, 90000, x⟩) 9 12 amt = .ok [⟨9, -amt⟩, ⟨12, amt⟩] := by
  have hb : amountB amt = true := amountB_iff.2 (by omega)
  unfold moveM
  rw [if_neg (by rintro (h | h) <;> cases h), if_neg (by rintro (h | h); · cases h
                                                         · rw [hb] at h; cases h)]
  rfl
theorem lim_step {amt : Int} (h : 1 ≤ amt ∧ amt ≤ 256) {i : Nat} (hi : i < 16) : submitM (limS s90 amt i) ⟨0, limR amt i, 0, false⟩ = (limS s90 amt (i + 1), (10, 0)) := by
  have hb : amountB amt = true := amountB_iff.2 (by omega)
  have hx : 0 ≤ (i : Int) * amt ∧ (i : Int) * amt ≤ 15 * amt := ⟨Int.mul_nonneg (by omega) (by omega), Int.mul_le_mul_of_nonneg_right (by omega) (by omega)⟩
  have hx1 : ((i + 1 : Nat) : Int) * amt = (i : Int) * amt + amt := by rw [Int.natCast_add, Int.add_mul]; simp
  have hf := lim_find amt i i (Nat.le_refl i)
  have hR : reserveM (limS s90 amt i) (limR amt i) = .ok (withA (limS s90 amt i) (s90.accs.set 9 ⟨0, 90000, ((i + 1 : Nat) : Int) * amt⟩)) := by
    have hc : (isCl (limS s90 amt i).accs.length (limR amt i).a && isCl (limS s90 amt i).accs.length (limR amt i).b) = true := by
      show (isCl (s90.accs.set 9 ⟨0, 90000, i * amt⟩).length 9 && isCl (s90.accs.set 9 ⟨0, 90000, i * amt⟩).length 12) = true
      rw [List.length_set]; decide
    unfold reserveM
    rw [if_neg (by rw [hc]; decide)]
    show (match moveM (s90.accs.set 9 ⟨0, 90000, i * amt⟩) 9 12 amt with | .error e => _ | .ok _ => (match holdM (s90.accs.set 9 ⟨0, 90000, i * amt⟩) 9 amt with | .error e => _ | .ok l => Except.ok (withA (limS s90 amt i) l))) = _
    rw [lim_move amt h]
    have hH : holdM (s90.accs.set 9 ⟨0, 90000, i * amt⟩) 9 amt = .ok (s90.accs.set 9 ⟨0, 90000, ((i + 1 : Nat) : Int) * amt⟩) := by
      unfold holdM
      rw [if_neg (show ¬ isCl (s90.accs.set 9 ⟨0, 90000, i * amt⟩).length 9 = false by rw [List.length_set]; decide), if_neg (by rw [hb]; decide)]
      show (if freeN ⟨0, 90000, i * amt⟩ < amt then _ else Except.ok ((s90.accs.set 9 ⟨0, 90000, i * amt⟩).set 9 ⟨0, 90000, w64 (i * amt + amt)⟩)) = _
      have hfr : freeN ⟨0, 90000, i * amt⟩ = 90000 - i * amt := by unfold freeN; exact w64_of (by simp only; omega) (by simp only; omega)
      rw [hfr, if_neg (by omega), List.set_set, w64_of (by omega) (by omega), hx1]
    rw [hH]
  unfold submitM
  simp only
  rw [if_neg (by rw [lim_may h (by omega)]; decide)]
  have hA : askM (limS s90 amt i).kns (limR amt i) = ((0, 0), false) := ask_none hf
  rw [hA, if_neg (by decide), if_neg (by rintro ⟨-, h⟩; simp [limS] at h; omega)]
  have hP : putKM (limS s90 amt i).kns (limR amt i) = .ok ((limS s90 amt i).kns ++ [⟨limR amt i, 0, 0, false⟩]) := put_none hf (by simp [limS]; omega)
  rw [hP]
  simp only
  rw [if_pos (show longB (limR amt i) = true from rfl), hR]
  simp only
  refine Prod.ext (sta_ext ⟨rfl, rfl, ?_, ?_, rfl⟩) rfl
  · show (List.range i).map _ ++ [beginM (limR amt i)] = (List.range (i + 1)).map _
    rw [List.range_succ, List.map_append]; rfl
  · show (List.range i).map _ ++ [(⟨limR amt i, 0, 0, false⟩ : Kno)] = (List.range (i + 1)).map _
    rw [List.range_succ, List.map_append]; rfl
theorem lim_full {amt : Int} (h : 1 ≤ amt ∧ amt ≤ 256) {i : Nat} (hi : 16 ≤ i) (hi2 : i ≤ 22) : submitM (limS s90 amt 16) ⟨0, limR amt i, 0, false⟩ = (limS s90 amt 16, (7, 0)) := by
  unfold submitM
  simp only
  rw [if_neg (by rw [lim_may h hi2]; decide)]
  have hA : askM (limS s90 amt 16).kns (limR amt i) = ((0, 0), false) := ask_none (lim_find amt 16 i hi)
  rw [hA, if_neg (by decide), if_pos ⟨rfl, by simp [limS]⟩]
theorem lim_eng {amt : Int} (h : 1 ≤ amt ∧ amt ≤ 256) {i : Nat} (hi : i ≤ 22) : engM (limS s90 amt (min i 16)) ⟨0, limR amt i, 0, false⟩ = (limS s90 amt (min (i + 1) 16), (if i < 16 then 10 else 7, 0)) := by
  have hE : engM (limS s90 amt (min i 16)) ⟨0, limR amt i, 0, false⟩ = submitM (limS s90 amt (min i 16)) ⟨0, limR amt i, 0, false⟩ := rfl
  rw [hE]
  by_cases h16 : i < 16
  · rw [Nat.min_eq_left (by omega), Nat.min_eq_left (by omega), if_pos h16]
    exact lim_step h h16
  · rw [Nat.min_eq_right (by omega), Nat.min_eq_right (by omega), if_neg h16]
    exact lim_full h (by omega) hi
end Go.Proofs.YtkeafcjdejmohaaGreatDoor.A
