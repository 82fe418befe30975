/- What a call is handed is written no more. -/
import Derived.Test.YtmlgkojmbnjfbaaDoorA18
namespace Go.Proofs.YtmlgkojmbnjfbaaDoor.A
open Go
variable {P : Program}
/-- All own slices that are handed over are written no more; then the call. -/
noncomputable def frzJ (j : StSpec) : StSpec := fun args s K => addH (AV.famsL args) [] fun fs => j (mapq (fun x => AV.frzAllq x fs) args) (s.frzAllq fs) K
theorem frz_ok {T : Tab} {f : FuncId} {j : StSpec} (h : SOk P T f j) : SOk P T f (frzJ j) := by
  refine ⟨h.1, fun args s K hS ρ c a vs hR hV => ?_⟩
  unfold frzJ at hS
  rw [addH_iff, List.append_nil, mapq_eq, vfrz_eq, sfrz_eq] at hS
  obtain ⟨c1, h1, h2, h3, h4, h5⟩ := Rel.frzAll (AV.famsL args) hR
  have hV' : VL T c1 (args.map fun x => x.frzAll (AV.famsL args)) vs := ⟨by rw [List.length_map]; exact hV.1, fun i x u hx hu => by
    rw [List.getElem?_map] at hx
    cases hq : args[i]? with
    | none => rw [hq] at hx; cases hx
    | some y => rw [hq] at hx; cases hx; exact h5 _ _ (hV.2 i y u hq hu)⟩
  have := h.2 _ _ _ hS ρ c1 a vs h4 hV'
  rw [h2] at this
  refine this.mono ?_
  rintro e w' ⟨v, c', s', res, rfl, rfl, k1, k2, k3, k4⟩
  exact ⟨v, c', s', res, rfl, rfl, h1.trans k1, k2, k3, k4⟩
def Box.frz (x : Box) : List Nat → Box
  | [] => x
  | F :: Fs => (x.mapA (AV.tr (frzF F))).frz Fs
noncomputable def Box.frzq (x : Box) (l : List Nat) : Box := List.rec (motive := fun _ => Box → Box) (fun x => x) (fun F _ ih x => ih (Box.mapq (frzFq F) x)) l x
theorem bfrz_eq : Box.frzq = Box.frz := by
  funext s l
  induction l generalizing s with
  | nil => rfl
  | cons F l ih =>
    show Box.frzq (Box.mapq (frzFq F) s) l = Box.frz (s.mapA (AV.tr (frzF F))) l
    rw [ih, boxq_eq, frzFq_eq]
theorem frzAll_h : ∀ (fs : List Nat) (s : St) (b : Nat), (s.frzAll fs).h b = (s.h b).map fun x => x.frz fs
  | [], s, b => by cases hq : s.h b <;> simp [St.frzAll, Box.frz, hq]
  | F :: fs, s, b => by
    rw [St.frzAll, frzAll_h fs]
    obtain ⟨t, h⟩ := s
    simp only [St.mapA]
    cases h b <;> rfl
/-- Own slices of a result, and of the boxes behind a call, as slices that nobody writes. -/
theorem FnOk.frzB {T : Tab} {f : FuncId} {S : List AV → List Box → (AV → List Box → Prop) → Prop} (h : FnOk P T f S) : FnOk P T f (fun args bs K => S args bs (fun res out => ∃ fs : List Nat, ∃ res' out', AV.frzAllq res fs = res' ∧ mapq (fun x => Box.frzq x fs) out = out' ∧ K res' out')) := by
  refine ⟨h.1, fun args bs K hS c vs hok hfm hV hB => ?_⟩
  refine Calls.mono (h.2 args bs _ hS c vs hok hfm hV hB) ?_
  rintro e w' ⟨v, c', res, out, rfl, rfl, ok', hst, hres, hout, fs, res', out', rfl, rfl, hK⟩
  rw [vfrz_eq, mapq_eq, bfrz_eq] at hK
  have hR : Rel T (fun _ => undef) c' ⟨fun _ => .bad, fun b => match Nat.ble 1000000000 b with
    | true => out[b - 1000000000]?
    | false => none⟩ { tmps := #[], defers := [] } := by
    refine ⟨ok', fun j => .bad _, fun b x hx => ?_, rfl⟩
    cases hq : Nat.ble 1000000000 b with
    | false =>
      have hx : (match Nat.ble 1000000000 b with
        | true => out[b - 1000000000]?
        | false => none) = some x := hx
      rw [hq] at hx
      cases hx
    | true =>
      have hx : (match Nat.ble 1000000000 b with
        | true => out[b - 1000000000]?
        | false => none) = some x := hx
      rw [hq] at hx
      obtain ⟨i, rfl⟩ := Nat.exists_eq_add_of_le (Nat.le_of_ble_eq_true hq)
      have hx : out[1000000000 + i - 1000000000]? = some x := hx
      rw [Nat.add_sub_cancel_left] at hx
      exact hout i x hx
  obtain ⟨c'', h1, h2, h3, h4, h5⟩ := Rel.frzAll fs hR
  refine ⟨v, c'', _, _, rfl, h2, h4.ok, hst.trans h1, h5 _ _ hres, fun i x hx => ?_, hK⟩
  rw [List.getElem?_map] at hx
  cases hq : out[i]? with
  | none => rw [hq] at hx; cases hx
  | some y =>
    rw [hq] at hx
    cases hx
    refine h4.h (1000000000 + i) _ ?_
    rw [frzAll_h]
    have hb : Nat.ble 1000000000 (1000000000 + i) = true := Nat.ble_eq_true_of_le (Nat.le_add_right _ _)
    show Option.map _ (match Nat.ble 1000000000 (1000000000 + i) with
      | true => out[1000000000 + i - 1000000000]?
      | false => none) = _
    rw [hb]
    show Option.map _ (out[1000000000 + i - 1000000000]?) = _
    rw [Nat.add_sub_cancel_left, hq]
    rfl
/-- A method whose result bears own slices: they are named from lo on. -/
noncomputable def ptrO (lo : Nat) (S : List AV → List Box → (AV → List Box → Prop) → Prop) : StSpec := fun args s K => ∃ (b : Nat) (e : TypeId) (cs rest : List AV), args = .ptr b 0 :: rest ∧ s.h b = some (.cells e cs) ∧ flatC rest ∧ flatL cs ∧
  S (.ptr 1000000000 0 :: rest) [.cells e cs] (fun res out => ∃ cs', out = [.cells e cs'] ∧ flatL cs' ∧ ((AV.ptrs res).isEmpty && Nat.blt res.fams.length 1000) = true ∧ K (AV.trq (renFq fun F => lo + idx F res.fams) res) ((s.mapQ (drpRq lo (lo + 1000))).box b (.cells e cs')))
theorem ptrO_ok {T : Tab} {f : FuncId} {S : List AV → List Box → (AV → List Box → Prop) → Prop} (lo : Nat) (h : FnOk P T f S) : SOk P T f (ptrO lo S) := by
  refine ⟨h.1, fun args s K hS ρ c a vs hR hV => ?_⟩
  obtain ⟨b, e, cs, rest, rfl, hbox, hrest, hcs, hS⟩ := hS
  match vs, hV with
  | [], hV => exact absurd hV.1 (by simp)
  | v0 :: vs, hV =>
    obtain ⟨g, hg, rfl⟩ := (hV.2 0 _ v0 rfl rfl).ptr_inv
    have hvr : VL T c rest vs := ⟨by simpa using hV.1, fun i x' u' hx hu => hV.2 (i + 1) x' u' (by simpa using hx) (by simpa using hu)⟩
    obtain ⟨g', hg', us, hblk, hcv, h1c⟩ := hR.h b _ hbox
    obtain rfl : g' = g := Option.some.inj (hg'.symm.trans hg)
    let c0 : Cx := ⟨c.w, c.Z, fun n => if n = 1000000000 then some g' else none, fun _ => none⟩
    have hb0 : ∀ n k, c0.bk n = some k → n = 1000000000 ∧ k = g' := fun n k hk => by
      have hk : (if n = 1000000000 then some g' else none) = some k := hk
      split at hk
      · rename_i hn; exact ⟨hn, (Option.some.inj hk).symm⟩
      · cases hk
    have hbk0 : c0.bk 1000000000 = some g' := rfl
    have ok0 : c0.Ok := ⟨hR.ok.zlt, fun n k hk => by rw [(hb0 n k hk).2]; exact hR.ok.blt b g' hg, fun _ _ h => (by cases h), fun n k hk => by rw [(hb0 n k hk).2]; exact hR.ok.zb b g' hg, fun _ _ h => (by cases h), fun n n' k h1 h2 => (hb0 n k h1).1.trans (hb0 n' k h2).1.symm, fun _ _ _ h => (by cases h), fun _ _ _ _ h => (by cases h), hR.ok.gl⟩
    have hZ0 : ∀ k, c.Z k → c0.Z k ∧ c0.w.heap[k]? = c.w.heap[k]? := fun k hk => ⟨hk, rfl⟩
    refine Calls.mono (h.2 _ _ _ hS c0 (.pointer (some ⟨g', 0, none⟩) :: vs) ok0 (fun _ => rfl) (VL.cons (.ptr _ _ g' hbk0) (flatC_vl hrest hZ0 hvr)) ?_) ?_
    · intro i x hx
      cases i with
      | zero => cases hx; exact ⟨g', hbk0, us, hblk, flat_vl hcs hZ0 hcv, h1c⟩
      | succ i => simp at hx
    rintro _ w' ⟨v, c', res, out, rfl, rfl, ok', hS, hres, hout, cs', rfl, hcs', hb, hK⟩
    rw [mapQ_eq, drpRq_eq, trq_eq, renFq_eq] at hK
    rw [Bool.and_eq_true, List.isEmpty_iff] at hb
    obtain ⟨hpr, hlt⟩ := hb
    have hlt' : res.fams.length < 1000 := Nat.le_of_ble_eq_true hlt
    obtain ⟨g2, hg2, us', hblk', hcv', h1c'⟩ := hout 0 _ rfl
    have hg2' : c'.bk 1000000000 = some g' := (hS.bk 1000000000 (Nat.le_refl _)).trans hbk0
    obtain rfl : g2 = g' := Option.some.inj (hg2.symm.trans hg2')
    have hwr : ∀ k, Wr c0 k → k = g2 := fun k hk => by
      rcases hk with ⟨n, hn⟩ | ⟨F, hF⟩
      · exact (hb0 n k hn).2
      · cases hF
    have hold : ∀ k, k < c.w.heap.size → k ≠ g2 → c'.w.heap[k]? = c.w.heap[k]? := fun k hk hne => hS.blk k hk (fun hw => hne (hwr k hw))
    have hsz : c.w.heap.size ≤ c'.w.heap.size := hS.size
    have hnew : ∀ F k, c'.fm F = some k → c.w.heap.size ≤ k := fun F k hF => (hS.wr k (.inr ⟨F, hF⟩)).elim (fun hw => by
      have := hwr k hw
      subst this
      exact (ok'.bf 1000000000 F k hg2' hF).elim) id
    obtain ⟨hi, hhi⟩ : ∃ hi, hi = lo + 1000 := ⟨_, rfl⟩
    rw [← hhi] at hK
    let nm : Nat → Option Nat := fun G => if lo ≤ G then (match res.fams[G - lo]? with
      | some F => if idx F res.fams = G - lo then c'.fm F else none
      | none => none) else none
    have hnm : ∀ G k, nm G = some k → ∃ F, lo ≤ G ∧ idx F res.fams = G - lo ∧ c'.fm F = some k := by
      intro G k hk
      simp only [nm] at hk
      split at hk
      · cases hq : res.fams[G - lo]? with
        | none => rw [hq] at hk; cases hk
        | some F =>
          rw [hq] at hk
          simp only at hk
          split at hk
          · exact ⟨F, by assumption, by assumption, hk⟩
          · cases hk
      · cases hk
    let cf : Cx := ⟨c'.w, fun k => c.Z k ∨ (c.w.heap.size ≤ k ∧ c'.Z k), c.bk, fmR lo hi nm c.fm⟩
    have hcase : ∀ G k, cf.fm G = some k → ((lo ≤ G ∧ G < hi) ∧ nm G = some k) ∨ (¬ (lo ≤ G ∧ G < hi) ∧ c.fm G = some k) := by
      intro G k hk
      have hk : fmR lo hi nm c.fm G = some k := hk
      unfold fmR at hk
      split at hk
      · rename_i hh; exact .inl ⟨hh, hk⟩
      · rename_i hh; exact .inr ⟨hh, hk⟩
    have hZ1 : ∀ k, c'.Z k → cf.Z k ∧ cf.w.heap[k]? = c'.w.heap[k]? := fun k hk => ⟨by
      rcases hS.z' k hk with h | h | h
      · exact .inl h
      · have := hwr k h
        subst this
        exact absurd hk (ok'.zb 1000000000 k hg2')
      · exact .inr ⟨h, hk⟩, rfl⟩
    have hne : ∀ k, c.Z k → k ≠ g2 := fun k hk e => hR.ok.zb b g2 hg (e ▸ hk)
    have hnf : ∀ F k, c.fm F = some k → k ≠ g2 := fun F k hk e => hR.ok.bf b F g2 hg (e ▸ hk)
    have hSt : Stays c cf (fun G => lo ≤ G ∧ G < hi) (fun _ => False) := ⟨fun k hk => ⟨.inl hk, hold k (hR.ok.zlt k hk) (hne k hk)⟩, fun n k hk _ => hk, fun F k hF hn => ⟨by show fmR lo hi nm c.fm F = _; unfold fmR; rw [if_neg hn]; exact hF, hold k (hR.ok.flt F k hF) (hnf F k hF)⟩⟩
    have okf : cf.Ok := by
      refine ⟨fun k hk => hk.elim (fun h => Nat.lt_of_lt_of_le (hR.ok.zlt k h) hsz) (fun h => ok'.zlt k h.2), fun n k hk => Nat.lt_of_lt_of_le (hR.ok.blt n k hk) hsz, fun G k hk => ?_, fun n k hk hz => ?_, fun G k hG hz => ?_, hR.ok.bb, fun G G' k hG hG' => ?_, fun n G k hn hG => ?_, hR.ok.gl.move hSt.z⟩
      · rcases hcase G k hk with ⟨_, h⟩ | ⟨_, h⟩
        · obtain ⟨F, _, _, hF⟩ := hnm G k h; exact ok'.flt F k hF
        · exact Nat.lt_of_lt_of_le (hR.ok.flt G k h) hsz
      · rcases hz with hz | hz
        · exact hR.ok.zb n k hk hz
        · have := hR.ok.blt n k hk; omega
      · rcases hcase G k hG with ⟨_, h⟩ | ⟨_, h⟩
        · obtain ⟨F, _, _, hF⟩ := hnm G k h
          rcases hz with hz | hz
          · have := hR.ok.zlt k hz; have := hnew F k hF; omega
          · exact ok'.zf F k hF hz.2
        · rcases hz with hz | hz
          · exact hR.ok.zf G k h hz
          · have := hR.ok.flt G k h; omega
      · rcases hcase G k hG with ⟨q1, h⟩ | ⟨_, h⟩ <;> rcases hcase G' k hG' with ⟨q2, h'⟩ | ⟨_, h'⟩
        · obtain ⟨F, k1, k2, k3⟩ := hnm G k h
          obtain ⟨F', k1', k2', k3'⟩ := hnm G' k h'
          have := ok'.ff F F' k k3 k3'
          subst this
          omega
        · obtain ⟨F, _, _, hF⟩ := hnm G k h; have := hnew F k hF; have := hR.ok.flt G' k h'; omega
        · obtain ⟨F, _, _, hF⟩ := hnm G' k h'; have := hnew F k hF; have := hR.ok.flt G k h; omega
        · exact hR.ok.ff G G' k h h'
      · rcases hcase G k hG with ⟨_, h⟩ | ⟨_, h⟩
        · obtain ⟨F, _, _, hF⟩ := hnm G k h; have := hnew F k hF; have := hR.ok.blt n k hn; omega
        · exact hR.ok.bf n G k hn h
    have key : ∀ G, (Nat.ble lo G && Nat.blt G hi) = false → ¬ (lo ≤ G ∧ G < hi) := fun G hq hh => by
      have b1 : Nat.ble lo G = true := Nat.ble_eq_true_of_le hh.1
      have b2 : Nat.blt G hi = true := Nat.ble_eq_true_of_le hh.2
      rw [b1, b2] at hq
      cases hq
    have hφ : ∀ x v, V T c x v → x.leaf = true → V T cf (drpR lo hi x) v := by
      intro x v hx hl
      have same : (∀ G ∈ x.fams, ¬ (lo ≤ G ∧ G < hi)) → V T cf x v := fun hp => hx.leaf_move hSt hl hp (fun _ _ => not_false)
      cases x <;> first | (simp [AV.leaf] at hl; done) | exact same (by simp [AV.fams]) | skip
      case sl t e xs =>
        cases t <;> first | exact same (by simp [AV.fams]) | skip
        case own G =>
          simp only [drpR]
          cases hq : (Nat.ble lo G && Nat.blt G hi) with
          | true => exact .bad _
          | false => exact same (by intro G' hG'; simp only [AV.fams, List.mem_singleton] at hG'; subst hG'; exact key _ hq)
      case pe t e i o cs =>
        cases t <;> first | exact same (by simp [AV.fams]) | skip
        case own G =>
          simp only [drpR]
          cases hq : (Nat.ble lo G && Nat.blt G hi) with
          | true => exact .bad _
          | false => exact same (by intro G' hG'; simp only [AV.fams, List.mem_singleton] at hG'; subst hG'; exact key _ hq)
    have hStep : Step c cf := ⟨hsz, hS.os, hS.tape, hS.output, fun k hk hw => hold k hk (fun e => hw (.inl ⟨b, e ▸ hg⟩)), fun k hk => by
      rcases hk with ⟨n, hn⟩ | ⟨G, hG⟩
      · exact .inl (.inl ⟨n, hn⟩)
      · rcases hcase G k hG with ⟨_, h⟩ | ⟨_, h⟩
        · obtain ⟨F, _, _, hF⟩ := hnm G k h; exact .inr (hnew F k hF)
        · exact .inl (.inr ⟨G, h⟩), fun k hk => .inl hk, fun k hk => hk.elim .inl (fun h => .inr (.inr h.1)), fun _ _ => rfl⟩
    have hVres : V T cf (res.tr (renF fun F => lo + idx F res.fams)) v := by
      have hS1 : Stays c' cf (fun _ => True) (fun _ => True) := ⟨hZ1, fun _ _ _ h => (h trivial).elim, fun _ _ _ h => (h trivial).elim⟩
      refine hres.trM fun y hy hl v hv => ?_
      have hyp : y.ptrs = [] := List.eq_nil_iff_forall_not_mem.2 fun b hb => by have := leaves_ptrs res y hy b hb; rw [hpr] at this; cases this
      have same : y.fams = [] → V T cf y v := fun hf => hv.leaf_move hS1 hl (by simp [hf]) (by simp [hyp])
      have hfm : ∀ F, F ∈ y.fams → ∀ k, c'.fm F = some k → cf.fm (lo + idx F res.fams) = some k := fun F hF k hk => by
        obtain ⟨k1, k2⟩ := idx_get (leaves_fams res y hy F hF)
        show fmR lo hi nm c.fm _ = _
        unfold fmR
        rw [if_pos ⟨by omega, by omega⟩]
        simp only [nm]
        rw [if_pos (by omega), show lo + idx F res.fams - lo = idx F res.fams by omega, k2]
        simp only [if_pos]
        exact hk
      cases y <;> first | (simp [AV.leaf] at hl; done) | exact same rfl | skip
      case sl t e xs =>
        cases t <;> first | exact same rfl | skip
        case own G =>
          cases hv with
          | nilsl => exact .nilsl _ _
          | slo _ _ _ _ k us hF hv ho h1 hs hf h =>
            exact .slo _ e xs v k us (hfm G (by simp [AV.fams]) k hF) hv ho h1 hs hf fun i x j y u a b d => (h i x j y u a b d).flat_move hZ1 (hf i x a j y b)
      case pe t e i o cs =>
        cases t <;> first | exact same rfl | skip
        case own G =>
          cases hv with
          | peo _ _ _ _ _ k us hF hu hl' hn hf h => exact .peo _ e i o cs k us (hfm G (by simp [AV.fams]) k hF) hu hl' hn hf fun j y u a b => (h j y u a b).flat_move hZ1 (hf j y a)
    refine ⟨v, cf, _, _, rfl, rfl, hStep, ?_, hVres, hK⟩
    obtain ⟨h3, h4⟩ := hR.map (c' := cf) hφ (fun n => n = b) (fun n k hn hnb => ⟨hn, hold k (hR.ok.blt n k hn) (fun e => hnb (hR.ok.bb n b k hn (e ▸ hg)))⟩)
    obtain ⟨t, hp⟩ := s
    refine ⟨okf, h3, fun n x hx => ?_, hR.d⟩
    by_cases hbb : n = b
    · subst hbb
      have : x = .cells e cs' := by
        simp only [St.mapA, St.box, upd_eq] at hx
        exact (Option.some.inj hx).symm
      subst this
      exact ⟨g2, hg, us', hblk', flat_vl hcs' hZ1 hcv', h1c'⟩
    · refine h4 n x ?_ hbb
      simp only [St.mapA, St.box, upd_ne _ _ hbb] at hx ⊢
      exact hx
def NilV (v v' : AV) : Prop := NilA v v' ∨ ∃ cs cs', v = .agg cs ∧ v' = .agg cs' ∧ NilL cs cs'
def NilVL : List AV → List AV → Prop
  | [], [] => True
  | v :: vs, v' :: vs' => NilV v v' ∧ NilVL vs vs'
  | _, _ => False
theorem NilVL.vl {T : Tab} {c : Cx} : ∀ {l l' : List AV} {us : List Value}, NilVL l l' → VL T c l us → VL T c l' us
  | [], [], _, _, h => h
  | [], _ :: _, _, h, _ => h.elim
  | _ :: _, [], _, h, _ => h.elim
  | v :: vs, v' :: vs', [], _, hv => absurd hv.1 (by simp)
  | v :: vs, v' :: vs', u :: us, h, hv => by
    refine VL.cons ?_ (NilVL.vl h.2 ⟨by have := hv.1; simpa using this, fun i x u' hx hu => hv.2 (i + 1) x u' (by simpa using hx) (by simpa using hu)⟩)
    have h0 := hv.2 0 v u rfl rfl
    rcases h.1 with hn | ⟨cs, cs', rfl, rfl, hl⟩
    · have : VL T c [v] [u] := VL.cons h0 VL.nil
      exact (NilL.vl (l := [v]) (l' := [v']) ⟨hn, trivial⟩ this).2 0 _ _ rfl rfl
    · obtain ⟨us', rfl, hvl⟩ := h0.agg_inv
      exact (hl.vl hvl).agg
def nil2C (S : List AV → List Box → (AV → List Box → Prop) → Prop) (args : List AV) (bs : List Box) (K : AV → List Box → Prop) : Prop := ∃ args', NilVL args args' ∧ S args' bs K
theorem FnOk.nil2 {T : Tab} {f : FuncId} {S : List AV → List Box → (AV → List Box → Prop) → Prop} (h : FnOk P T f S) : FnOk P T f (nil2C S) :=
  ⟨h.1, fun _ bs K ⟨args', hN, hS⟩ c vs hok hfm hV hB => h.2 args' bs K hS c vs hok hfm (hN.vl hV) hB⟩
/-- A result's nil slices as empty ones that nobody writes. -/
theorem FnOk.nilR {T : Tab} {f : FuncId} {S : List AV → List Box → (AV → List Box → Prop) → Prop} (h : FnOk P T f S) : FnOk P T f (fun args bs K => S args bs (fun res out => ∃ res', NilV res res' ∧ K res' out)) := by
  refine ⟨h.1, fun args bs K hS c vs hok hfm hV hB => Calls.mono (h.2 args bs _ hS c vs hok hfm hV hB) ?_⟩
  rintro e w' ⟨v, c', res, out, rfl, rfl, ok', hst, hres, hout, res', hN, hK⟩
  refine ⟨v, c', res', out, rfl, rfl, ok', hst, ?_, hout, hK⟩
  have : VL T c' [res'] [v] := NilVL.vl (l := [res]) (l' := [res']) ⟨hN, trivial⟩ (VL.cons hres VL.nil)
  exact this.2 0 _ _ rfl rfl
end Go.Proofs.YtmlgkojmbnjfbaaDoor.A
