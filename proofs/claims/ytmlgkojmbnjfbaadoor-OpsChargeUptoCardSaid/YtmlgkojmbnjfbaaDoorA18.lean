/- A method that is handed a pointer to a variable whose cells lead to nothing that is written. -/
import Derived.Test.YtmlgkojmbnjfbaaDoorA17
namespace Go.Proofs.YtmlgkojmbnjfbaaDoor.A
open Go
variable {P : Program}
abbrev flatL (l : List AV) : Prop := all? AV.flat l = true
theorem flat_mem {l : List AV} (h : flatL l) : ∀ x ∈ l, x.flat = true := by
  induction l with
  | nil => intro x hx; simp at hx
  | cons y l ih =>
    have h : (y.flat && all? AV.flat l) = true := h
    rw [Bool.and_eq_true] at h
    intro x hx
    rcases List.mem_cons.1 hx with rfl | hx
    · exact h.1
    · exact ih h.2 x hx
theorem flat_vl {T : Tab} {c c' : Cx} {l : List AV} {us : List Value} (hf : flatL l) (hZ : ∀ g, c.Z g → c'.Z g ∧ c'.w.heap[g]? = c.w.heap[g]?) (h : VL T c l us) : VL T c' l us :=
  ⟨h.1, fun i x u hx hu => (h.2 i x u hx hu).flat_move hZ (flat_mem hf x (List.mem_of_getElem? hx))⟩
theorem flat_leaves {T : Tab} {c c' : Cx} {x : AV} {v : Value} (h : V T c x v) (hf : flatL x.leaves) (hZ : ∀ g, c.Z g → c'.Z g ∧ c'.w.heap[g]? = c.w.heap[g]?) : V T c' x v := by
  have := h.trM (c' := c') (φ := fun y => y) fun y hy _ v hv => hv.flat_move hZ (flat_mem hf y hy)
  rwa [tr_id] at this
abbrev flatC (l : List AV) : Prop := all? (fun x => all? AV.flat x.cells) l = true
theorem flatC_mem : ∀ {l : List AV}, flatC l → ∀ x ∈ l, flatL x.cells
  | [], _, x, hx => by simp at hx
  | y :: l, h, x, hx => by
    have h : (all? AV.flat y.cells && all? (fun x => all? AV.flat x.cells) l) = true := h
    rw [Bool.and_eq_true] at h
    rcases List.mem_cons.1 hx with rfl | hx
    · exact h.1
    · exact flatC_mem h.2 x hx
theorem flatC_move {T : Tab} {c c' : Cx} {x : AV} {v : Value} (h : V T c x v) (hf : flatL x.cells) (hZ : ∀ g, c.Z g → c'.Z g ∧ c'.w.heap[g]? = c.w.heap[g]?) : V T c' x v := by
  cases x with
  | agg cs =>
    obtain ⟨us, rfl, hv⟩ := h.agg_inv
    exact (flat_vl (l := cs) hf hZ hv).agg
  | _ => exact h.flat_move hZ (flat_mem hf _ (List.mem_singleton.2 rfl))
theorem flatC_vl {T : Tab} {c c' : Cx} {l : List AV} {us : List Value} (hf : flatC l) (hZ : ∀ g, c.Z g → c'.Z g ∧ c'.w.heap[g]? = c.w.heap[g]?) (h : VL T c l us) : VL T c' l us :=
  ⟨h.1, fun i x u hx hu => flatC_move (h.2 i x u hx hu) (flatC_mem hf x (List.mem_of_getElem? hx)) hZ⟩
/-- A method: its receiver's cells, and what it leaves there. -/
def ptrJ (S : List AV → List Box → (AV → List Box → Prop) → Prop) : StSpec := fun args s K => ∃ (b : Nat) (e : TypeId) (cs rest : List AV), args = .ptr b 0 :: rest ∧ s.h b = some (.cells e cs) ∧ flatC rest ∧ flatL cs ∧
  S (.ptr 1000000000 0 :: rest) [.cells e cs] (fun res out => ∃ cs', out = [.cells e cs'] ∧ flatL cs' ∧ flatL res.leaves ∧ K res (s.box b (.cells e cs')))
theorem ptr_ok {T : Tab} {f : FuncId} {S : List AV → List Box → (AV → List Box → Prop) → Prop} (h : FnOk P T f S) : SOk P T f (ptrJ S) := by
  refine ⟨h.1, fun args s K hS ρ c a vs hR hV => ?_⟩
  obtain ⟨b, e, cs, rest, rfl, hbox, hrest, hcs, hS⟩ := hS
  match vs, hV with
  | [], hV => exact absurd hV.1 (by simp)
  | v0 :: vs, hV =>
    obtain ⟨g, hg, rfl⟩ := (hV.2 0 _ v0 rfl rfl).ptr_inv
    have hvr : VL T c rest vs := ⟨by simpa using hV.1, fun i x' u' hx hu => hV.2 (i + 1) x' u' (by simpa using hx) (by simpa using hu)⟩
    obtain ⟨g', hg', us, hblk, hcv, h1c⟩ := hR.h b _ hbox
    obtain rfl : g' = g := Option.some.inj (hg'.symm.trans hg)
    let c0 : Cx := ⟨c.w, c.Z, fun n => if n = 1000000000 then some g' else none, fun _ => none⟩
    have hb0 : ∀ n k, c0.bk n = some k → n = 1000000000 ∧ k = g' := fun n k hk => by
      have hk : (if n = 1000000000 then some g' else none) = some k := hk
      split at hk
      · rename_i hn; exact ⟨hn, (Option.some.inj hk).symm⟩
      · cases hk
    have hbk0 : c0.bk 1000000000 = some g' := rfl
    have ok0 : c0.Ok := ⟨hR.ok.zlt, fun n k hk => by rw [(hb0 n k hk).2]; exact hR.ok.blt b g' hg, fun _ _ h => (by cases h), fun n k hk => by rw [(hb0 n k hk).2]; exact hR.ok.zb b g' hg, fun _ _ h => (by cases h), fun n n' k h1 h2 => (hb0 n k h1).1.trans (hb0 n' k h2).1.symm, fun _ _ _ h => (by cases h), fun _ _ _ _ h => (by cases h), hR.ok.gl⟩
    have hZ0 : ∀ k, c.Z k → c0.Z k ∧ c0.w.heap[k]? = c.w.heap[k]? := fun k hk => ⟨hk, rfl⟩
    refine Calls.mono (h.2 _ _ _ hS c0 (.pointer (some ⟨g', 0, none⟩) :: vs) ok0 (fun _ => rfl) (VL.cons (.ptr _ _ g' hbk0) (flatC_vl hrest hZ0 hvr)) ?_) ?_
    · intro i x hx
      cases i with
      | zero => cases hx; exact ⟨g', hbk0, us, hblk, flat_vl hcs hZ0 hcv, h1c⟩
      | succ i => simp at hx
    rintro _ w' ⟨v, c', res, out, rfl, rfl, ok', hS, hres, hout, cs', rfl, hcs', hrl, hK⟩
    obtain ⟨g2, hg2, us', hblk', hcv', h1c'⟩ := hout 0 _ rfl
    have hg2' : c'.bk 1000000000 = some g' := (hS.bk 1000000000 (Nat.le_refl _)).trans hbk0
    obtain rfl : g2 = g' := Option.some.inj (hg2.symm.trans hg2')
    have hwr : ∀ k, Wr c0 k → k = g2 := fun k hk => by
      rcases hk with ⟨n, hn⟩ | ⟨F, hF⟩
      · exact (hb0 n k hn).2
      · cases hF
    have hold : ∀ k, k < c.w.heap.size → k ≠ g2 → c'.w.heap[k]? = c.w.heap[k]? := fun k hk hne => hS.blk k hk (fun hw => hne (hwr k hw))
    let c'' : Cx := ⟨c'.w, fun k => c.Z k ∨ (c.w.heap.size ≤ k ∧ c'.Z k), c.bk, c.fm⟩
    have hsz : c.w.heap.size ≤ c'.w.heap.size := hS.size
    have hZ1 : ∀ k, c'.Z k → c''.Z k ∧ c''.w.heap[k]? = c'.w.heap[k]? := fun k hk => ⟨by
      rcases hS.z' k hk with h | h | h
      · exact .inl h
      · have := hwr k h
        subst this
        exact absurd hk (ok'.zb 1000000000 k hg2')
      · exact .inr ⟨h, hk⟩, rfl⟩
    have hne : ∀ k, c.Z k → k ≠ g2 := fun k hk e => hR.ok.zb b g2 hg (e ▸ hk)
    have hSt : Stays c c'' (fun _ => False) (fun _ => False) := ⟨fun k hk => ⟨.inl hk, hold k (hR.ok.zlt k hk) (hne k hk)⟩, fun n k hk _ => hk, fun F k hF _ => ⟨hF, hold k (hR.ok.flt F k hF) (fun e => hR.ok.bf b F g2 hg (e ▸ hF))⟩⟩
    have ok'' : c''.Ok := by
      refine ⟨fun k hk => hk.elim (fun h => Nat.lt_of_lt_of_le (hR.ok.zlt k h) hsz) (fun h => ok'.zlt k h.2), fun n k hk => Nat.lt_of_lt_of_le (hR.ok.blt n k hk) hsz, fun F k hk => Nat.lt_of_lt_of_le (hR.ok.flt F k hk) hsz, fun n k hk hz => ?_, fun F k hk hz => ?_, hR.ok.bb, hR.ok.ff, hR.ok.bf, hR.ok.gl.move hSt.z⟩
      · rcases hz with hz | hz
        · exact hR.ok.zb n k hk hz
        · have := hR.ok.blt n k hk; omega
      · rcases hz with hz | hz
        · exact hR.ok.zf F k hk hz
        · have := hR.ok.flt F k hk; omega
    have hStep : Step c c'' := ⟨hsz, hS.os, hS.tape, hS.output, fun k hk hw => hold k hk (fun e => hw (.inl ⟨b, e ▸ hg⟩)), fun k hk => .inl hk, fun k hk => .inl hk, fun k hk => hk.elim .inl (fun h => .inr (.inr h.1)), fun _ _ => rfl⟩
    refine ⟨v, c'', _, res, rfl, rfl, hStep, ?_, flat_leaves hres hrl hZ1, hK⟩
    cases s with
    | mk t hp =>
      refine ⟨ok'', fun j => (hR.t j).move hSt, fun b' x hx => ?_, hR.d⟩
      by_cases hbb : b' = b
      · subst hbb
        have : x = .cells e cs' := by
          simp only [St.box, upd_eq] at hx
          exact (Option.some.inj hx).symm
        subst this
        exact ⟨g2, hg, us', hblk', flat_vl hcs' hZ1 hcv', h1c'⟩
      · simp only [St.box, upd_ne _ _ hbb] at hx
        obtain ⟨g3, h3, h4⟩ := hR.h b' x hx
        refine ⟨g3, h3, ?_⟩
        have hne3 : g3 ≠ g2 := fun e => hbb (hR.ok.bb b' b g3 h3 (e ▸ hg))
        have hh := hold g3 (hR.ok.blt b' g3 h3) hne3
        cases x with
        | cells e' cs2 =>
          obtain ⟨us2, h5, h6, h7⟩ := h4
          exact ⟨us2, hh.trans h5, ⟨h6.1, fun i x u a b => (h6.2 i x u a b).move hSt⟩, h7⟩
        | mapo es =>
          obtain ⟨ns, clock, h5, h6⟩ := h4
          exact ⟨ns, clock, hh.trans h5, h6.moved hSt⟩
end Go.Proofs.YtmlgkojmbnjfbaaDoor.A
