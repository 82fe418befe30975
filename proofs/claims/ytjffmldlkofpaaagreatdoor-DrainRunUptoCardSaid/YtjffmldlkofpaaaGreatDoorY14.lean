/- Plain: nothing is wrong of an engine's state. -/
import Derived.Test.YtjffmldlkofpaaaGreatDoorY10
import Derived.Test.YtjffmldlkofpaaaGreatDoorU6
namespace Go.Proofs.YtjffmldlkofpaaaGreatDoor.A
open Go Q
theorem addAt_at {l : List Int} {k n : Int} (h0 : 0 ≤ k) (hb : ∀ x, l[k.toNat]? = some x → w64 (x + n) = x + n) {i : Nat} {x : Int} (hx : l[i]? = some x) : (addAt l k n)[i]? = some (x + if k = (i : Int) then n else 0) := by
  unfold addAt
  rw [if_pos h0]
  by_cases hi : k.toNat = i
  · have hk : k = (i : Int) := by omega
    rw [hi, hx]
    simp only
    rw [List.getElem?_set, if_pos rfl, if_pos (List.getElem?_eq_some_iff.1 hx).1, hb x (by rw [hi]; exact hx), if_pos hk]
  · rw [if_neg (by omega)]
    split
    · rw [List.getElem?_set, if_neg hi, hx, Int.add_zero]
    · rw [hx, Int.add_zero]
theorem addP_at {n : Nat} {l : List Int} {p : Pay} (hp : PayR n p) (hb : ∀ (i : Nat) (x : Int), l[i]? = some x → 0 ≤ x ∧ x + leftAt i p ≤ 4503599627370496) {i : Nat} {x : Int} (hx : l[i]? = some x) : (addP l p)[i]? = some (x + leftAt i p) := by
  have hs := hp.s
  have hl := hp.leftE
  unfold addP
  rw [addAt_at (by omega) (fun y hy => by
    obtain ⟨b0, b1⟩ := hb _ y hy
    unfold leftAt at b1
    rw [if_pos (by omega)] at b1
    rw [hl.1]
    exact w64_of (by omega) (by omega)) hx, hl.1]
  rfl
theorem foldP_at {n : Nat} : ∀ {ps : List Pay} {l : List Int}, (∀ p ∈ ps, PayR n p) → (∀ (i : Nat) (x : Int), l[i]? = some x → 0 ≤ x ∧ x + heldP ps i ≤ 4503599627370496) → ∀ (i : Nat) (x : Int), l[i]? = some x → (ps.foldl addP l)[i]? = some (x + heldP ps i)
  | [], l, _, _, i, x, hx => by rw [List.foldl_nil, hx]; simp [heldP, sumI]
  | p :: ps, l, hp, hb, i, x, hx => by
    have hpp := hp p (List.mem_cons_self ..)
    have e : ∀ i : Nat, heldP (p :: ps) i = leftAt i p + heldP ps i := fun _ => rfl
    have h0 : ∀ i : Nat, 0 ≤ heldP ps i := fun i => sumI_nonneg _ fun q hq => leftAt_nonneg (hp q (List.mem_cons_of_mem _ hq)) i
    have hat : ∀ (i : Nat) (x : Int), l[i]? = some x → (addP l p)[i]? = some (x + leftAt i p) := fun i x hx => addP_at hpp (fun j y hy => by
      have := hb j y hy
      rw [e] at this
      have := h0 j
      omega) hx
    rw [List.foldl_cons, foldP_at (ps := ps) (l := addP l p) (fun q hq => hp q (List.mem_cons_of_mem _ hq)) (fun j y hy => by
      have hj : j < l.length := by
        have := (List.getElem?_eq_some_iff.1 hy).1
        unfold addP at this
        rw [addAt_len] at this; exact this
      have hxj := List.getElem?_eq_getElem hj
      rw [hat j _ hxj] at hy
      obtain rfl := Option.some.inj hy
      have := hb j _ hxj
      rw [e] at this
      have := leftAt_nonneg hpp (j : Int)
      omega) i _ (hat i x hx), e]
    congr 1; omega
theorem addG_at {l : List Int} {g : Sag} (h9 : 0 ≤ g.req.a) (h1 : 0 ≤ g.req.amt) (hb : ∀ (i : Nat) (x : Int), l[i]? = some x → 0 ≤ x ∧ x + amtAt i g ≤ 4503599627370496) {i : Nat} {x : Int} (hx : l[i]? = some x) : (addG l g)[i]? = some (x + amtAt i g) := by
  unfold addG
  rw [addAt_at h9 (fun y hy => by
    obtain ⟨b0, b1⟩ := hb _ y hy
    unfold amtAt at b1
    rw [if_pos (by omega)] at b1
    exact w64_of (by omega) (by omega)) hx]
  rfl
theorem foldG_at : ∀ {gs : List Sag} {l : List Int}, (∀ g ∈ gs, 0 ≤ g.req.a ∧ 0 ≤ g.req.amt) → (∀ (i : Nat) (x : Int), l[i]? = some x → 0 ≤ x ∧ x + heldG gs i ≤ 4503599627370496) → ∀ (i : Nat) (x : Int), l[i]? = some x → (gs.foldl addG l)[i]? = some (x + heldG gs i)
  | [], l, _, _, i, x, hx => by rw [List.foldl_nil, hx]; simp [heldG, sumI]
  | g :: gs, l, hp, hb, i, x, hx => by
    obtain ⟨g9, g1⟩ := hp g (List.mem_cons_self ..)
    have e : ∀ i : Nat, heldG (g :: gs) i = amtAt i g + heldG gs i := fun _ => rfl
    have a0 : ∀ (q : Sag), 0 ≤ q.req.amt → ∀ i : Nat, 0 ≤ amtAt i q := fun q hq i => by unfold amtAt; split <;> omega
    have h0 : ∀ i : Nat, 0 ≤ heldG gs i := fun i => sumI_nonneg _ fun q hq => a0 q (hp q (List.mem_cons_of_mem _ hq)).2 i
    have hat : ∀ (i : Nat) (x : Int), l[i]? = some x → (addG l g)[i]? = some (x + amtAt i g) := fun i x hx => addG_at g9 g1 (fun j y hy => by
      have := hb j y hy
      rw [e] at this
      have := h0 j
      omega) hx
    rw [List.foldl_cons, foldG_at (gs := gs) (l := addG l g) (fun q hq => hp q (List.mem_cons_of_mem _ hq)) (fun j y hy => by
      have hj : j < l.length := by
        have := (List.getElem?_eq_some_iff.1 hy).1
        unfold addG at this
        rw [addAt_len] at this; exact this
      have hxj := List.getElem?_eq_getElem hj
      rw [hat j _ hxj] at hy
      obtain rfl := Option.some.inj hy
      have := hb j _ hxj
      rw [e] at this
      have := a0 g g1 j
      omega) i _ (hat i x hx), e]
    congr 1; omega
/-- What is held of each account, by its payments and sagas. -/
theorem heldL_of {s : Sta} (h : GoodA s) : heldL s = s.accs.map (·.held) := by
  apply List.ext_getElem?
  intro i
  by_cases hi : i < s.accs.length
  · have ha := List.getElem?_eq_getElem hi
    have hz : ∀ (j : Nat) (x : Int), (List.replicate s.accs.length (0 : Int))[j]? = some x → x = 0 ∧ j < s.accs.length := fun j x hx => by
      rw [List.getElem?_replicate] at hx
      split at hx
      · rename_i hj; cases hx; exact ⟨rfl, hj⟩
      · cases hx
    have hb : ∀ j : Nat, j < s.accs.length → heldP s.pays j + heldG s.sags j ≤ 1125899906842624 := fun j hj => by
      have := h.held j _ (List.getElem?_eq_getElem hj)
      omega
    have hP : ∀ (j : Nat), j < s.accs.length → (s.pays.foldl addP (List.replicate s.accs.length 0))[j]? = some (heldP s.pays j) := fun j hj => by
      rw [foldP_at h.pay (fun k x hx => by
        obtain ⟨rfl, hk⟩ := hz k x hx
        have := hb k hk
        have := h.heldG0 k
        omega) j 0 (by rw [List.getElem?_replicate, if_pos hj]), Int.zero_add]
    unfold heldL
    rw [List.getElem?_map, ha, foldG_at (fun g hg => by have := h.sga g hg; omega) (fun k x hx => by
      have hk : k < s.accs.length := by
        have := (List.getElem?_eq_some_iff.1 hx).1
        rw [foldP_len, List.length_replicate] at this; exact this
      rw [hP k hk] at hx
      obtain rfl := Option.some.inj hx
      have := hb k hk
      have := h.heldP0 k
      omega) i _ (hP i hi)]
    exact congrArg some (h.held i _ ha).1.symm
  · rw [List.getElem?_eq_none (by rw [heldL_len]; omega), List.getElem?_eq_none (by rw [List.length_map]; omega)]
theorem EngG.small {s : Sta} (h : EngG s) : Small s := by
  have la := h.e.z.la
  have lp := h.e.z.lp
  have ls := h.e.z.ls
  have lk := h.e.z.lk
  exact ⟨by omega, by omega, by omega, by omega, by omega⟩
theorem nodup_of {l : List Req} (h : KeyD l) : (l.map (·.key)).Nodup := by
  rw [List.nodup_iff_pairwise_ne, List.pairwise_iff_getElem]
  intro i j hi hj hij e
  simp only [List.getElem_map] at e
  have := h i j _ _ (List.getElem?_eq_getElem (by simpa using hi)) (List.getElem?_eq_getElem (by simpa using hj)) e
  omega
theorem find_D {ks : List Kno} (hd : KeyD (ks.map (·.req))) {j : Nat} {q : Kno} (hq : ks[j]? = some q) : findK ks q.req.key 0 = j := by
  have hf := find_at (key := q.req.key) (ks := ks) (i := j) (k := q) (o := 0) hq rfl (fun a x ha hx hk => by
    have := hd a j x.req q.req (by rw [List.getElem?_map, hx]; rfl) (by rw [List.getElem?_map, hq]; rfl) hk
    omega)
  omega
theorem reqEq_refl (r : Req) : reqEq r r = true := by simp [reqEq]
/-- Nothing is wrong. -/
theorem faults_nil {s : Sta} (h : EngG s) : faults s = [] := by
  have c1 : zeroT (sumsL s.accs) = true := by rw [sums_zero h.g.acs h.e.z.la]; rfl
  have c2 : rightL s.accs = true := rightL_of h.g.acs h.e.z.la
  have c3 : paysOk s = true := all_yes fun i p hp => by
    have hP := h.g.pay p (List.mem_of_getElem? hp)
    unfold payOk
    rw [hP.right, isCl_of hP.s, isCl_of hP.d]
    simp [hP.ne]
  have c4 : sagsOk s = true := all_yes fun i g hg => by
    obtain ⟨j, q, h1, h2, h3⟩ := h.e.wk i g hg
    have hf := find_D h.e.kd h1
    rw [h2] at hf
    unfold sagOk knOk
    rw [(h.sr g (List.mem_of_getElem? hg)).right, hf, show ((j : Nat) : Int).toNat = j by omega, h1]
    simp only
    rw [h3, h2, reqEq_refl]
    simp
  have c5 : holdsOk s = true := decide_eq_true (heldL_of h.g).symm
  have c6 : knownB s = true := by
    unfold knownB
    have hn : (gkeys s).Nodup := by
      have := nodup_of h.e.sd
      rw [List.map_map] at this
      exact this
    rw [decide_eq_true hn, Bool.true_and]
    refine allX_yes fun i k hk => ?_
    unfold knOk1
    rw [find_D h.e.kd hk, decide_eq_true (by omega), Bool.true_and]
    cases ht : k.told with
    | true => rfl
    | false =>
      obtain ⟨g, hg, e⟩ := h.ku k (List.mem_of_getElem? hk) ht
      rw [Bool.false_or]
      exact decide_eq_true (List.mem_map.2 ⟨g, hg, by rw [e]⟩)
  unfold faults cks
  rw [c1, c2, c3, c4, c5, c6]
  rfl
theorem quiet_of {s : Sta} (h : EngG s) : quietB s = decide (s.sags.length = 0) := by
  unfold quietB holdsOk
  rw [decide_eq_true (heldL_of h.g).symm, Bool.and_true]
end Go.Proofs.YtjffmldlkofpaaaGreatDoor.A
