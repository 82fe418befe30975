/- Steps of a frame: stores into own slices; what a call hands back. -/
import Derived.Test.YtmlgkojmbnjfbaaDoorA6
namespace Go.Proofs.YtmlgkojmbnjfbaaDoor.A
open Go

theorem putV_get : ∀ (vs us : List Value) (off j : Nat), off + vs.length ≤ us.length → (putV us off vs)[j]? = if off ≤ j ∧ j < off + vs.length then vs[j - off]? else us[j]?
  | [], us, off, j, _ => by
    rw [if_neg (by simp <;> omega)]
    rfl
  | v :: vs, us, off, j, h => by
    simp only [List.length_cons] at h
    rw [putV, putV_get vs (us.set off v) (off + 1) j (by simp; omega)]
    by_cases h1 : off = j
    · subst h1
      rw [if_neg (by omega), if_pos (by simp), List.getElem?_set_self (by omega)]
      simp
    · by_cases h2 : off + 1 ≤ j ∧ j < off + 1 + vs.length
      · rw [if_pos h2, if_pos (by simp; omega)]
        have : j - off = (j - (off + 1)) + 1 := by omega
        rw [this, List.getElem?_cons_succ]
      · rw [if_neg h2, if_neg (by simp; omega), List.getElem?_set_ne h1]
theorem putCells_length : ∀ (vs us : List AV) (off : Nat), (putCells us off vs).length = us.length
  | [], us, off => rfl
  | v :: vs, us, off => by simp [putCells, putCells_length vs]
theorem putCells_get : ∀ (vs us : List AV) (off j : Nat), off + vs.length ≤ us.length → (putCells us off vs)[j]? = if off ≤ j ∧ j < off + vs.length then vs[j - off]? else us[j]?
  | [], us, off, j, _ => by
    rw [if_neg (by simp <;> omega)]
    rfl
  | v :: vs, us, off, j, h => by
    simp only [List.length_cons] at h
    rw [putCells, putCells_get vs (us.set off v) (off + 1) j (by simp; omega)]
    by_cases h1 : off = j
    · subst h1
      rw [if_neg (by omega), if_pos (by simp), List.getElem?_set_self (by omega)]
      simp
    · by_cases h2 : off + 1 ≤ j ∧ j < off + 1 + vs.length
      · rw [if_pos h2, if_pos (by simp; omega)]
        have : j - off = (j - (off + 1)) + 1 := by omega
        rw [this, List.getElem?_cons_succ]
      · rw [if_neg h2, if_neg (by simp; omega), List.getElem?_set_ne h1]

theorem isCell_cells {x : AV} (h : x.isCell = true) : x.cells = [x] := by cases x <;> first | rfl | (simp [AV.isCell] at h; done)
theorem ofCells_cells {x : AV} {ys : List AV} {off : Nat} (hy : ∀ y ∈ ys, y.isCell = true) (hfit : off + ys.length ≤ x.cells.length) : (x.ofCells (putCells x.cells off ys)).cells = putCells x.cells off ys := by
  have one : x.cells = [x] → x.ofCells (putCells x.cells off ys) = (putCells x.cells off ys).headD x → (x.ofCells (putCells x.cells off ys)).cells = putCells x.cells off ys := by
    intro h1 h2
    rw [h2]
    rw [h1] at hfit ⊢
    cases ys with
    | nil => simp only [putCells, List.headD_cons]; exact h1
    | cons y ys =>
      have : off = 0 ∧ ys = [] := by
        simp at hfit
        exact ⟨by omega, List.eq_nil_of_length_eq_zero (by omega)⟩
      obtain ⟨rfl, rfl⟩ := this
      simp only [putCells, List.set_cons_zero, List.headD_cons]
      exact isCell_cells (hy y (by simp))
  cases x <;> first | rfl | exact one rfl rfl

section
variable {P : Program} {T : Tab} {ρ : Nat → Value} {c : Cx}

/-- An element of an own slice is written. -/
theorem Rel.wrt {s : St} {a : Act} (hR : Rel T ρ c s a) {F i off g : Nat} {e : TypeId} {cur : Array Value} {ys : List AV} {vs : List Value} (hF : c.fm F = some g) (hblk : c.w.heap[g]? = some (.cells cur e (0, 0)))
    (hV : VL T c ys vs) (hfl : ∀ y ∈ ys, y.flat = true ∧ y.isCell = true) (h1 : ∀ u ∈ vs, u.oneCell' = true) (hfit : off + ys.length ≤ T.size e) (hin : i * T.size e + T.size e ≤ cur.size) :
    Step c ⟨c.w.setRow g (putV cur.toList (i * T.size e + off) vs).toArray, c.Z, c.bk, c.fm⟩ ∧ Rel T ρ ⟨c.w.setRow g (putV cur.toList (i * T.size e + off) vs).toArray, c.Z, c.bk, c.fm⟩ (s.mapA (wrtF F i off ys)) a := by
  generalize hw : c.w.setRow g (putV cur.toList (i * T.size e + off) vs).toArray = w'
  have hold : ∀ k, k ≠ g → w'.heap[k]? = c.w.heap[k]? := fun k hk => by rw [← hw]; exact setRow_other c.w g k _ hk
  have hnew : w'.heap[g]? = some (.cells (putV cur.toList (i * T.size e + off) vs).toArray e (0, 0)) := by rw [← hw]; exact setRow_heap c.w g _ _ e _ hblk
  have hsize : w'.heap.size = c.w.heap.size := by rw [← hw]; simp [World.setRow]
  have hlen := hV.1
  have hS : Stays c ⟨w', c.Z, c.bk, c.fm⟩ (fun G => G = F) (fun _ => False) := ⟨fun k hk => ⟨hk, hold k (fun e => hR.ok.zf F g hF (e ▸ hk))⟩, fun b g hg _ => hg, fun G k hG hn => ⟨hG, hold k (fun e => hn (hR.ok.ff G F g (e ▸ hG) hF))⟩⟩
  have hvs : i * T.size e + off + vs.length ≤ cur.toList.length := by have : cur.toList.length = cur.size := Array.length_toList; omega
  have hcl : cur.toList.length = cur.size := Array.length_toList
  have hZ : ∀ g, c.Z g → c.Z g ∧ w'.heap[g]? = c.w.heap[g]? := hS.z
  have hys : ∀ (j : Nat) (y : AV) (u : Value), ys[j]? = some y → vs[j]? = some u → V T ⟨w', c.Z, c.bk, c.fm⟩ y u := fun j y u a b => (hV.2 j y u a b).flat_move hZ (hfl y (List.mem_of_getElem? a)).1
  have hφ : ∀ x v, V T c x v → x.leaf = true → V T ⟨w', c.Z, c.bk, c.fm⟩ (wrtF F i off ys x) v := by
    intro x v hx hl
    have same : (∀ G ∈ x.fams, ¬ G = F) → V T ⟨w', c.Z, c.bk, c.fm⟩ x v := fun hp => hx.leaf_move hS hl hp (fun _ _ => not_false)
    cases x <;> first | (simp [AV.leaf] at hl; done) | exact same (by simp [AV.fams]) | skip
    case sl t e' xs =>
      cases t <;> first | exact same (by simp [AV.fams]) | skip
      case own G =>
        simp only [wrtF]
        cases hq : Nat.beq G F with
        | false => exact same (by simp [AV.fams]; exact beq_false hq)
        | true =>
          have hGF := Nat.eq_of_beq_eq_true hq
          subst hGF
          cases hx with
          | nilsl => rw [List.modify_nil]; exact .nilsl _ _
          | slo _ _ _ _ g2 us hF2 hv ho h1' hs hf h =>
            rcases ho.2 with ⟨rfl, h0⟩ | ⟨g', cap, cur2, rfl, hb, hgg, hc, hm, hcs, htake⟩
            · simp [Value.ownBlock] at hv
            · have hg2 : g' = g2 := by simpa [Value.ownBlock] using hv
              have hgg' : g2 = g := Option.some.inj (hF2.symm.trans hF)
              subst hg2
              subst hgg'
              rw [hblk] at hgg
              simp only [Option.some.injEq, Obj.cells.injEq] at hgg
              obtain ⟨rfl, rfl, _⟩ := hgg
              have hnsz : xs.length * T.size e ≤ cur.size := by rw [hcs]; exact Nat.mul_le_mul_right _ hc
              have hul : us.length = xs.length * T.size e := ho.1
              have hget : ∀ j, j < xs.length * T.size e → us[j]? = cur.toList[j]? := fun j hj => by rw [← htake, List.getElem?_take_of_lt hj]
              have hput : ∀ j, j < xs.length * T.size e → ((putV cur.toList (i * T.size e + off) vs).take (xs.length * T.size e))[j]? = if i * T.size e + off ≤ j ∧ j < i * T.size e + off + vs.length then vs[j - (i * T.size e + off)]? else us[j]? := fun j hj => by
                rw [List.getElem?_take_of_lt hj, putV_get vs _ _ _ hvs, hget j hj]
              have hmod : ∀ k x, (xs.modify i fun x => x.ofCells (putCells x.cells off ys))[k]? = some x → ∃ x', xs[k]? = some x' ∧ ((k = i ∧ x.cells = putCells x'.cells off ys) ∨ (k ≠ i ∧ x = x')) := by
                intro k x hk
                rw [List.getElem?_modify] at hk
                cases hx' : xs[k]? with
                | none => rw [hx'] at hk; simp at hk
                | some x' =>
                  rw [hx'] at hk
                  refine ⟨x', rfl, ?_⟩
                  by_cases hki : i = k
                  · subst hki
                    simp at hk
                    exact .inl ⟨rfl, by rw [← hk]; exact ofCells_cells (fun y hy => (hfl y hy).2) (by rw [hs _ x' hx']; exact hfit)⟩
                  · simp [hki] at hk
                    exact .inr ⟨fun e => hki e.symm, hk.symm⟩
              have hlx : (xs.modify i fun x => x.ofCells (putCells x.cells off ys)).length = xs.length := List.length_modify _ _ _
              refine .slo G e _ _ g' ((putV cur.toList (i * T.size e + off) vs).take (xs.length * T.size e)) hF hv ?_ ?_ ?_ ?_ ?_
              · rw [hlx]
                refine ⟨by rw [List.length_take, putV_length, hcl]; exact Nat.min_eq_left hnsz, .inr ⟨g', cap, _, rfl, Nat.zero_le _, hnew, hc, hm, by rw [List.size_toArray, putV_length, Array.length_toList]; exact hcs, rfl⟩⟩
              · intro u hu
                obtain ⟨j, hj, rfl⟩ := List.getElem_of_mem hu
                have hj' : j < xs.length * T.size e := by rw [List.length_take] at hj; omega
                have hg3 := hput j hj'
                rw [List.getElem?_eq_getElem hj] at hg3
                split at hg3
                · exact h1 _ (List.mem_of_getElem? hg3.symm)
                · exact h1' _ (List.mem_of_getElem? hg3.symm)
              · intro k x hk
                obtain ⟨x', hx', hr⟩ := hmod k x hk
                rcases hr with ⟨_, hr⟩ | ⟨_, rfl⟩
                · rw [hr, putCells_length]; exact hs k x' hx'
                · exact hs k x hx'
              · intro k x hk j y hy
                obtain ⟨x', hx', hr⟩ := hmod k x hk
                rcases hr with ⟨_, hr⟩ | ⟨_, rfl⟩
                · rw [hr, putCells_get _ _ _ _ (by rw [hs k x' hx']; exact hfit)] at hy
                  split at hy
                  · exact (hfl y (List.mem_of_getElem? hy)).1
                  · exact hf k x' hx' j y hy
                · exact hf k x hx' j y hy
              · intro k x j y u hk hy hu
                obtain ⟨x', hx', hr⟩ := hmod k x hk
                have hkl : k < xs.length := (List.getElem?_eq_some_iff.1 hx').1
                have hjl : j < T.size e := by
                  have := (List.getElem?_eq_some_iff.1 hy).1
                  rcases hr with ⟨_, hr⟩ | ⟨_, rfl⟩
                  · rw [hr, putCells_length, hs k x' hx'] at this; exact this
                  · rw [hs k x hx'] at this; exact this
                have hkm : k * T.size e + T.size e ≤ xs.length * T.size e := by
                  have := Nat.mul_le_mul_right (T.size e) (show k + 1 ≤ xs.length from hkl)
                  rwa [Nat.succ_mul] at this
                rw [hput _ (by omega)] at hu
                rcases hr with ⟨rfl, hr⟩ | ⟨hne, rfl⟩
                · rw [hr, putCells_get _ _ _ _ (by rw [hs k x' hx']; exact hfit)] at hy
                  by_cases hin2 : off ≤ j ∧ j < off + ys.length
                  · rw [if_pos hin2] at hy
                    rw [if_pos (by omega), show k * T.size e + j - (k * T.size e + off) = j - off by omega] at hu
                    exact hys _ _ _ hy hu
                  · rw [if_neg hin2] at hy
                    rw [if_neg (by omega)] at hu
                    exact (h k x' j y u hx' hy hu).flat_move hZ (hf k x' hx' j y hy)
                · rw [if_neg ?_] at hu
                  · exact (h k x j y u hx' hy hu).flat_move hZ (hf k x hx' j y hy)
                  · rcases Nat.lt_or_gt_of_ne hne with hlt | hgt
                    · have := Nat.mul_le_mul_right (T.size e) (show k + 1 ≤ i from hlt)
                      rw [Nat.succ_mul] at this
                      omega
                    · have := Nat.mul_le_mul_right (T.size e) (show i + 1 ≤ k from hgt)
                      rw [Nat.succ_mul] at this
                      omega
    case pe t e' j o cs =>
      cases t <;> first | exact same (by simp [AV.fams]) | skip
      case own G =>
        simp only [wrtF]
        cases hq : Nat.beq G F with
        | false => exact same (by simp [AV.fams]; exact beq_false hq)
        | true =>
          have hGF := Nat.eq_of_beq_eq_true hq
          subst hGF
          cases hx with
          | peo _ _ _ _ _ g2 us hF2 hu hl' hn hf h =>
            obtain ⟨cur2, hb2, hseg⟩ := hn
            have hgg' : g2 = g := Option.some.inj (hF2.symm.trans hF)
            subst hgg'
            rw [hblk] at hb2
            simp only [Option.some.injEq, Obj.cells.injEq] at hb2
            obtain ⟨rfl, rfl, _⟩ := hb2
            have hgu : ∀ k, k < T.size e → us[k]? = cur.toList[j * T.size e + k]? := fun k hk => by rw [← hseg, List.getElem?_take_of_lt hk, List.getElem?_drop]
            have hul : us.length = T.size e := by omega
            have hgp : ∀ k, k < T.size e → ((((putV cur.toList (i * T.size e + off) vs).toArray.toList.drop (j * T.size e)).take (T.size e)))[k]? = if i * T.size e + off ≤ j * T.size e + k ∧ j * T.size e + k < i * T.size e + off + vs.length then vs[j * T.size e + k - (i * T.size e + off)]? else us[k]? := fun k hk => by
              rw [List.getElem?_take_of_lt hk, List.getElem?_drop, putV_get vs _ _ _ hvs, hgu k hk]
            have hseglen : (((putV cur.toList (i * T.size e + off) vs).toArray.toList.drop (j * T.size e)).take (T.size e)).length = T.size e := by
              have := congrArg List.length hseg
              simp only [List.length_take, List.length_drop, Array.length_toList] at this ⊢
              simp only [putV_length, Array.length_toList]
              omega
            cases hq2 : Nat.beq j i with
            | true =>
              have := Nat.eq_of_beq_eq_true hq2
              subst this
              refine .peo G e j o _ g2 _ hF (by rw [putCells_length, hseglen, hl']) (by rw [putCells_length]; exact hl') ⟨_, hnew, rfl⟩ (fun k y hy => ?_) (fun k y u hy hu' => ?_)
              · rw [putCells_get _ _ _ _ (by rw [hl']; exact hfit)] at hy
                split at hy
                · exact (hfl y (List.mem_of_getElem? hy)).1
                · exact hf k y hy
              · have hk : k < T.size e := by
                  have := (List.getElem?_eq_some_iff.1 hu').1
                  rwa [hseglen] at this
                rw [hgp k hk] at hu'
                rw [putCells_get _ _ _ _ (by rw [hl']; exact hfit)] at hy
                by_cases hin2 : off ≤ k ∧ k < off + ys.length
                · rw [if_pos hin2] at hy
                  rw [if_pos (by omega), show j * T.size e + k - (j * T.size e + off) = k - off by omega] at hu'
                  exact hys _ _ _ hy hu'
                · rw [if_neg hin2] at hy
                  rw [if_neg (by omega)] at hu'
                  exact (h k y u hy hu').flat_move hZ (hf k y hy)
            | false =>
              have hne := beq_false hq2
              refine .peo G e j o _ g2 _ hF (by rw [hseglen, hl']) hl' ⟨_, hnew, rfl⟩ hf (fun k y u hy hu' => ?_)
              have hk : k < T.size e := by
                have := (List.getElem?_eq_some_iff.1 hu').1
                rwa [hseglen] at this
              rw [hgp k hk, if_neg ?_] at hu'
              · exact (h k y u hy hu').flat_move hZ (hf k y hy)
              · rcases Nat.lt_or_gt_of_ne hne with hlt | hgt
                · have := Nat.mul_le_mul_right (T.size e) (show j + 1 ≤ i from hlt)
                  rw [Nat.succ_mul] at this
                  omega
                · have := Nat.mul_le_mul_right (T.size e) (show i + 1 ≤ j from hgt)
                  rw [Nat.succ_mul] at this
                  omega
  refine ⟨⟨by rw [hsize]; exact Nat.le_refl _, by rw [← hw]; rfl, by rw [← hw]; rfl, by rw [← hw]; rfl, fun k hk hw => hold k (fun e => hw (.inr ⟨F, e ▸ hF⟩)), fun k h => .inl h, fun _ h => h, fun _ h => .inl h, fun _ _ => rfl⟩, ?_⟩
  obtain ⟨h3, h4⟩ := hR.map (c' := ⟨w', c.Z, c.bk, c.fm⟩) hφ (fun _ => False) (fun b k hb _ => ⟨hb, hold k (fun e => hR.ok.bf b F g (e ▸ hb) hF)⟩)
  exact ⟨⟨fun k hk => by rw [hsize]; exact hR.ok.zlt k hk, fun b k hk => by rw [hsize]; exact hR.ok.blt b k hk, fun F k hk => by rw [hsize]; exact hR.ok.flt F k hk, hR.ok.zb, hR.ok.zf, hR.ok.bb, hR.ok.ff, hR.ok.bf, hR.ok.gl.move hZ⟩, h3, fun b x hx => h4 b x hx not_false, hR.d⟩
end
end Go.Proofs.YtmlgkojmbnjfbaaDoor.A
