/- Calls: what is lent, what comes back. -/
import Derived.Test.YtmlgkojmbnjfbaaDoorA7
namespace Go.Proofs.YtmlgkojmbnjfbaaDoor.A
open Go

mutual
def AV.leaves : AV → List AV
  | .agg cs => AV.leavesL cs
  | .tup cs => AV.leavesL cs
  | .ifc _ v => v.leaves
  | .fn _ a c => AV.leavesL a ++ AV.leavesL c
  | v => [v]
def AV.leavesL : List AV → List AV
  | [] => []
  | v :: vs => v.leaves ++ AV.leavesL vs
end
theorem leaves_at : ∀ {l : List AV} {i : Nat} {x : AV}, l[i]? = some x → ∀ y ∈ x.leaves, y ∈ AV.leavesL l
  | [], i, x, h, y, _ => by simp at h
  | v :: l, 0, x, h, y, hy => by simp at h; subst h; simp [AV.leavesL, hy]
  | v :: l, i + 1, x, h, y, hy => by
    have := leaves_at (l := l) (i := i) (by simpa using h) y hy
    simp [AV.leavesL, this]
mutual
theorem leaves_fams : ∀ (x y : AV), y ∈ x.leaves → ∀ F ∈ y.fams, F ∈ x.fams
  | .agg cs, y, h, F, hF => by rw [AV.fams]; exact leavesL_fams cs y (by simpa [AV.leaves] using h) F hF
  | .tup cs, y, h, F, hF => by rw [AV.fams]; exact leavesL_fams cs y (by simpa [AV.leaves] using h) F hF
  | .ifc t v, y, h, F, hF => by rw [AV.fams]; exact leaves_fams v y (by simpa [AV.leaves] using h) F hF
  | .fn f a c, y, h, F, hF => by
    rw [AV.fams, List.mem_append]
    simp only [AV.leaves, List.mem_append] at h
    exact h.imp (fun h => leavesL_fams a y h F hF) (fun h => leavesL_fams c y h F hF)
  | .int _ _, y, h, F, hF | .bool _, y, h, F, hF | .str _, y, h, F, hF | .ptr _ _, y, h, F, hF | .nilptr, y, h, F, hF | .sl _ _ _, y, h, F, hF | .pe _ _ _ _ _, y, h, F, hF | .nilfn, y, h, F, hF | .nilifc, y, h, F, hF | .mp _, y, h, F, hF | .nilmp, y, h, F, hF | .bad, y, h, F, hF => by
    simp only [AV.leaves, List.mem_singleton] at h
    subst h
    exact hF
theorem leavesL_fams : ∀ (l : List AV) (y : AV), y ∈ AV.leavesL l → ∀ F ∈ y.fams, F ∈ AV.famsL l
  | [], y, h, F, hF => by simp [AV.leavesL] at h
  | v :: l, y, h, F, hF => by
    rw [AV.famsL, List.mem_append]
    simp only [AV.leavesL, List.mem_append] at h
    exact h.imp (fun h => leaves_fams v y h F hF) (fun h => leavesL_fams l y h F hF)
end
mutual
theorem leaves_ptrs : ∀ (x y : AV), y ∈ x.leaves → ∀ F ∈ y.ptrs, F ∈ x.ptrs
  | .agg cs, y, h, F, hF => by rw [AV.ptrs]; exact leavesL_ptrs cs y (by simpa [AV.leaves] using h) F hF
  | .tup cs, y, h, F, hF => by rw [AV.ptrs]; exact leavesL_ptrs cs y (by simpa [AV.leaves] using h) F hF
  | .ifc t v, y, h, F, hF => by rw [AV.ptrs]; exact leaves_ptrs v y (by simpa [AV.leaves] using h) F hF
  | .fn f a c, y, h, F, hF => by
    rw [AV.ptrs, List.mem_append]
    simp only [AV.leaves, List.mem_append] at h
    exact h.imp (fun h => leavesL_ptrs a y h F hF) (fun h => leavesL_ptrs c y h F hF)
  | .int _ _, y, h, F, hF | .bool _, y, h, F, hF | .str _, y, h, F, hF | .ptr _ _, y, h, F, hF | .nilptr, y, h, F, hF | .sl _ _ _, y, h, F, hF | .pe _ _ _ _ _, y, h, F, hF | .nilfn, y, h, F, hF | .nilifc, y, h, F, hF | .mp _, y, h, F, hF | .nilmp, y, h, F, hF | .bad, y, h, F, hF => by
    simp only [AV.leaves, List.mem_singleton] at h
    subst h
    exact hF
theorem leavesL_ptrs : ∀ (l : List AV) (y : AV), y ∈ AV.leavesL l → ∀ F ∈ y.ptrs, F ∈ AV.ptrsL l
  | [], y, h, F, hF => by simp [AV.leavesL] at h
  | v :: l, y, h, F, hF => by
    rw [AV.ptrsL, List.mem_append]
    simp only [AV.leavesL, List.mem_append] at h
    exact h.imp (fun h => leaves_ptrs v y h F hF) (fun h => leavesL_ptrs l y h F hF)
end
mutual
theorem leaves_fz : ∀ (x y : AV), y ∈ x.leaves → x.hasFz = false → y.hasFz = false
  | .agg cs, y, h, hz => leavesL_fz cs y (by simpa [AV.leaves] using h) (by simpa [AV.hasFz] using hz)
  | .tup cs, y, h, hz => leavesL_fz cs y (by simpa [AV.leaves] using h) (by simpa [AV.hasFz] using hz)
  | .ifc t v, y, h, hz => leaves_fz v y (by simpa [AV.leaves] using h) (by simpa [AV.hasFz] using hz)
  | .fn f a c, y, h, hz => by
    simp only [AV.leaves, List.mem_append] at h
    simp only [AV.hasFz, Bool.or_eq_false_iff] at hz
    exact h.elim (fun h => leavesL_fz a y h hz.1) (fun h => leavesL_fz c y h hz.2)
  | .int _ _, y, h, hz | .bool _, y, h, hz | .str _, y, h, hz | .ptr _ _, y, h, hz | .nilptr, y, h, hz | .sl _ _ _, y, h, hz | .pe _ _ _ _ _, y, h, hz | .nilfn, y, h, hz | .nilifc, y, h, hz | .mp _, y, h, hz | .nilmp, y, h, hz | .bad, y, h, hz => by
    simp only [AV.leaves, List.mem_singleton] at h
    subst h
    exact hz
theorem leavesL_fz : ∀ (l : List AV) (y : AV), y ∈ AV.leavesL l → AV.hasFzL l = false → y.hasFz = false
  | [], y, h, hz => by simp [AV.leavesL] at h
  | v :: l, y, h, hz => by
    simp only [AV.leavesL, List.mem_append] at h
    simp only [AV.hasFzL, Bool.or_eq_false_iff] at hz
    exact h.elim (fun h => leaves_fz v y h hz.1) (fun h => leavesL_fz l y h hz.2)
end

section
variable {P : Program} {T : Tab} {ρ : Nat → Value} {c : Cx}

/-- Leaf by leaf, those that are there. -/
theorem V.trM {c' : Cx} {φ : AV → AV} {x : AV} {v : Value} (h : V T c x v) (hφ : ∀ y ∈ x.leaves, y.leaf = true → ∀ v, V T c y v → V T c' (φ y) v) : V T c' (x.tr φ) v := by
  have leaf : ∀ y v, V T c y v → y.leaf = true → y.leaves = [y] → (∀ z ∈ y.leaves, z.leaf = true → ∀ v, V T c z v → V T c' (φ z) v) → V T c' (y.tr φ) v := fun y v hy hl hy1 hf => by
    rw [tr_leaf φ hl]
    exact hf y (by rw [hy1]; simp) hl v hy
  induction h with
  | agg cs us hl _ ih =>
    rw [AV.tr]
    refine .agg _ us (by rw [trL_length]; exact hl) fun i x u hx hu => ?_
    rw [trL_get] at hx
    cases hc : cs[i]? with
    | none => simp [hc] at hx
    | some y => rw [hc] at hx; cases hx; exact ih i y u hc hu (fun z hz => hφ z (by rw [AV.leaves]; exact leaves_at hc z hz))
  | tup cs us hl _ ih =>
    rw [AV.tr]
    refine .tup _ us (by rw [trL_length]; exact hl) fun i x u hx hu => ?_
    rw [trL_get] at hx
    cases hc : cs[i]? with
    | none => simp [hc] at hx
    | some y => rw [hc] at hx; cases hx; exact ih i y u hc hu (fun z hz => hφ z (by rw [AV.leaves]; exact leaves_at hc z hz))
  | fn f a d us vs hl hm _ _ ih ih' =>
    rw [AV.tr]
    refine .fn f _ _ us vs (by rw [trL_length]; exact hl) (by rw [trL_length]; exact hm) (fun i x u hx hu => ?_) (fun i x u hx hu => ?_)
    · rw [trL_get] at hx
      cases hc : a[i]? with
      | none => simp [hc] at hx
      | some y => rw [hc] at hx; cases hx; exact ih i y u hc hu (fun z hz => hφ z (by rw [AV.leaves, List.mem_append]; exact .inl (leaves_at hc z hz)))
    · rw [trL_get] at hx
      cases hc : d[i]? with
      | none => simp [hc] at hx
      | some y => rw [hc] at hx; cases hx; exact ih' i y u hc hu (fun z hz => hφ z (by rw [AV.leaves, List.mem_append]; exact .inr (leaves_at hc z hz)))
  | ifc t x u _ ih => rw [AV.tr]; exact .ifc t _ u (ih (fun z hz => hφ z (by rw [AV.leaves]; exact hz)))
  | int k n => exact leaf _ _ (.int k n) rfl rfl hφ
  | bool b => exact leaf _ _ (.bool b) rfl rfl hφ
  | str s => exact leaf _ _ (.str s) rfl rfl hφ
  | ptr b off g hb => exact leaf _ _ (.ptr b off g hb) rfl rfl hφ
  | nilptr => exact leaf _ _ .nilptr rfl rfl hφ
  | nilsl t e => exact leaf _ _ (.nilsl t e) rfl rfl hφ
  | slf e xs g o cap us hz hc hm hu hr h1 hs hf h _ => exact leaf _ _ (.slf e xs g o cap us hz hc hm hu hr h1 hs hf h) rfl rfl hφ
  | slo F e xs v g us hF hv ho h1 hs hf h _ => exact leaf _ _ (.slo F e xs v g us hF hv ho h1 hs hf h) rfl rfl hφ
  | pef e idx off cs g o us hz hu hr hf h _ => exact leaf _ _ (.pef e idx off cs g o us hz hu hr hf h) rfl rfl hφ
  | peo F e idx off cs g us hF hu hl hn hf h _ => exact leaf _ _ (.peo F e idx off cs g us hF hu hl hn hf h) rfl rfl hφ
  | nilfn => exact leaf _ _ .nilfn rfl rfl hφ
  | nilifc => exact leaf _ _ .nilifc rfl rfl hφ
  | mp b g hb => exact leaf _ _ (.mp b g hb) rfl rfl hφ
  | nilmp => exact leaf _ _ .nilmp rfl rfl hφ
  | bad u => exact leaf _ _ (.bad u) rfl rfl hφ

/-- What is lent. -/
def Cx.lent (c : Cx) (Fs : List Nat) : Cx := ⟨c.w, fun g => c.Z g ∨ ∃ F ∈ Fs, c.fm F = some g, fun _ => none, fun _ => none⟩
theorem lent_ok (h : c.Ok) (Fs : List Nat) : (c.lent Fs).Ok :=
  ⟨fun g hg => hg.elim (h.zlt g) (fun ⟨F, _, hF⟩ => h.flt F g hF), fun _ _ h => (by cases h), fun _ _ h => (by cases h), fun _ _ h => (by cases h), fun _ _ h => (by cases h), fun _ _ _ h => (by cases h), fun _ _ _ h => (by cases h), fun _ _ _ h => (by cases h), h.gl.move fun g hg => ⟨.inl hg, rfl⟩⟩

/-- An own slice's cells. -/
theorem slo_slf {c' : Cx} {F : Nat} {e : TypeId} {xs : List AV} {v : Value} (h : V T c (.sl (.own F) e xs) v) (hZ : ∀ g, c.Z g → c'.Z g ∧ c'.w.heap[g]? = c.w.heap[g]?) (hF' : ∀ g, c.fm F = some g → c'.Z g ∧ c'.w.heap[g]? = c.w.heap[g]?) : V T c' (.sl .fz e xs) v := by
  cases h with
  | nilsl => exact .nilsl _ _
  | slo _ _ _ _ g us hF hv ho h1 hs hf h =>
    have hcell := ho.cells (g := g) hv
    have hlen := ho.1
    rcases ho.2 with ⟨rfl, h0⟩ | ⟨g', cap, cur, rfl, _, _, hc, hm, _⟩
    · simp [Value.ownBlock] at hv
    · obtain rfl : g' = g := by simpa [Value.ownBlock] using hv
      refine .slf e xs g' 0 cap us (hF' g' hF).1 hc hm hlen (fun j u hj => ?_) h1 hs hf (fun i x j y u a b d => (h i x j y u a b d).flat_move hZ (hf i x a j y b))
      have := hcell j u hj
      rw [show (⟨g', 0, none⟩ : Addr).add j = ⟨g', 0 + j, none⟩ from by unfold Addr.add; split <;> simp_all] at this
      exact (World.cell?_of_block (a := ⟨g', 0 + j, none⟩) (hF' g' hF).2).trans this

theorem V.lend {x : AV} {v : Value} (h : V T c x v) {Fs : List Nat} (hF : ∀ F ∈ x.fams, F ∈ Fs) (hp : x.ptrs = []) : V T (c.lent Fs) (x.tr lendA) v := by
  refine h.trM fun y hy hl v hv => ?_
  have hZ : ∀ g, c.Z g → (c.lent Fs).Z g ∧ (c.lent Fs).w.heap[g]? = c.w.heap[g]? := fun g hg => ⟨.inl hg, rfl⟩
  have hS : Stays c (c.lent Fs) (fun _ => True) (fun _ => True) := ⟨hZ, fun _ _ _ h => (h trivial).elim, fun _ _ _ h => (h trivial).elim⟩
  have hyp : y.ptrs = [] := List.eq_nil_iff_forall_not_mem.2 fun b hb => by have := leaves_ptrs x y hy b hb; rw [hp] at this; cases this
  have same : y.fams = [] → V T (c.lent Fs) y v := fun hf => hv.leaf_move hS hl (by simp [hf]) (by simp [hyp])
  cases y <;> first | (simp [AV.leaf] at hl; done) | exact same rfl | skip
  case sl t e xs =>
    cases t <;> first | exact same rfl | skip
    case own G =>
      exact slo_slf hv hZ fun g hg => ⟨.inr ⟨G, hF G (leaves_fams x _ hy G (by simp [AV.fams])), hg⟩, rfl⟩
  case pe t e i o cs =>
    cases t <;> first | exact same rfl | skip
    case own G =>
      cases hv with
      | peo _ _ _ _ _ g us hF2 hu hl' hn hf h => exact .pef e i o cs g _ us (.inr ⟨G, hF G (leaves_fams x _ hy G (by simp [AV.fams])), hF2⟩) hu (reads_of_seg hn.choose_spec.1 hn.choose_spec.2) hf (fun j y u a b => (h j y u a b).flat_move hZ (hf j y a))

theorem VL.lend {xs : List AV} {vs : List Value} (h : VL T c xs vs) {Fs : List Nat} (hF : ∀ F ∈ AV.famsL xs, F ∈ Fs) (hp : AV.ptrsL xs = []) : VL T (c.lent Fs) (AV.trL lendA xs) vs := by
  refine ⟨by rw [trL_length]; exact h.1, fun i x u hx hu => ?_⟩
  rw [trL_get] at hx
  cases hc : xs[i]? with
  | none => rw [hc] at hx; cases hx
  | some y =>
    rw [hc] at hx
    cases hx
    have hfam : ∀ {l : List AV} {i : Nat} {y : AV}, l[i]? = some y → ∀ F ∈ y.fams, F ∈ AV.famsL l := by
      intro l
      induction l with
      | nil => intro i y h; simp at h
      | cons v l ih =>
        intro i y h F hF
        cases i with
        | zero => simp at h; subst h; simp [AV.famsL, hF]
        | succ i => simp [AV.famsL, ih (by simpa using h) F hF]
    have hptr : ∀ {l : List AV} {i : Nat} {y : AV}, l[i]? = some y → ∀ F ∈ y.ptrs, F ∈ AV.ptrsL l := by
      intro l
      induction l with
      | nil => intro i y h; simp at h
      | cons v l ih =>
        intro i y h F hF
        cases i with
        | zero => simp at h; subst h; simp [AV.ptrsL, hF]
        | succ i => simp [AV.ptrsL, ih (by simpa using h) F hF]
    exact (h.2 i y u hc hu).lend (fun F hf => hF F (hfam hc F hf)) (List.eq_nil_iff_forall_not_mem.2 fun b hb => by have := hptr hc b hb; rw [hp] at this; cases this)

/-- The own slices' blocks, those of the numbers from lo to hi others. -/
def fmR (lo hi : Nat) (nm fm : Nat → Option Nat) : Nat → Option Nat := fun G => if lo ≤ G ∧ G < hi then nm G else fm G

/-- A call has come back. -/
theorem Rel.come {c1 c0 c' : Cx} {s : St} {a : Act} (h01 : Step c c1) (hw1 : c1.w = c.w) (hR : Rel T ρ c1 s a) (hc0 : c0.w = c.w) (hb0 : ∀ b, c0.bk b = none) (hf0 : ∀ F, c0.fm F = none) (hS : Step c0 c') (ok' : c'.Ok)
    (lo hi : Nat) (nm : Nat → Option Nat) (hnm : ∀ G g, nm G = some g → ∃ F, c'.fm F = some g) (hinj : ∀ G G' g, nm G = some g → nm G' = some g → G = G') :
    Step c ⟨c'.w, fun g => c1.Z g ∨ (c.w.heap.size ≤ g ∧ c'.Z g), c1.bk, fmR lo hi nm c1.fm⟩ ∧ Rel T ρ ⟨c'.w, fun g => c1.Z g ∨ (c.w.heap.size ≤ g ∧ c'.Z g), c1.bk, fmR lo hi nm c1.fm⟩ (s.mapA (drpR lo hi)) a := by
  have hno : ∀ g, ¬ Wr c0 g := fun g h => h.elim (fun ⟨b, h⟩ => by rw [hb0] at h; cases h) (fun ⟨F, h⟩ => by rw [hf0] at h; cases h)
  have hsz : c.w.heap.size ≤ c'.w.heap.size := by rw [← hc0]; exact hS.size
  have hblk : ∀ g, g < c.w.heap.size → c'.w.heap[g]? = c.w.heap[g]? := fun g hg => by
    rw [hS.blk g (by rw [hc0]; exact hg) (hno g), hc0]
  have hnew : ∀ F g, c'.fm F = some g → c.w.heap.size ≤ g := fun F g h => (hS.wr g (.inr ⟨F, h⟩)).elim (fun h => (hno g h).elim) (fun h => by rw [hc0] at h; exact h)
  have hlt1 : ∀ g, c1.Z g → g < c.w.heap.size := fun g h => by rw [← hw1]; exact hR.ok.zlt g h
  have hltb : ∀ b g, c1.bk b = some g → g < c.w.heap.size := fun b g h => by rw [← hw1]; exact hR.ok.blt b g h
  have hltf : ∀ F g, c1.fm F = some g → g < c.w.heap.size := fun F g h => by rw [← hw1]; exact hR.ok.flt F g h
  have hcase : ∀ G g, fmR lo hi nm c1.fm G = some g → ((lo ≤ G ∧ G < hi) ∧ nm G = some g) ∨ (¬ (lo ≤ G ∧ G < hi) ∧ c1.fm G = some g) := by
    intro G g h
    unfold fmR at h
    split at h
    · rename_i hh; exact .inl ⟨hh, h⟩
    · rename_i hh; exact .inr ⟨hh, h⟩
  have hok : Cx.Ok ⟨c'.w, fun g => c1.Z g ∨ (c.w.heap.size ≤ g ∧ c'.Z g), c1.bk, fmR lo hi nm c1.fm⟩ := by
    refine ⟨fun g hg => hg.elim (fun h => Nat.lt_of_lt_of_le (hlt1 g h) hsz) (fun h => ok'.zlt g h.2), fun b g hg => Nat.lt_of_lt_of_le (hltb b g hg) hsz, fun G g hg => ?_, fun b g hb hg => ?_, fun G g hG hg => ?_, hR.ok.bb, fun G G' g hG hG' => ?_, fun b G g hb hG => ?_, hR.ok.gl.move fun g hg => ⟨.inl hg, by rw [hw1]; exact hblk g (hlt1 g hg)⟩⟩
    · rcases hcase G g hg with ⟨_, h⟩ | ⟨_, h⟩
      · obtain ⟨F, hF⟩ := hnm G g h; exact ok'.flt F g hF
      · exact Nat.lt_of_lt_of_le (hltf G g h) hsz
    · rcases hg with h | h
      · exact hR.ok.zb b g hb h
      · have := hltb b g hb; omega
    · rcases hcase G g hG with ⟨_, h⟩ | ⟨_, h⟩
      · obtain ⟨F, hF⟩ := hnm G g h
        rcases hg with h2 | h2
        · have := hlt1 g h2; have := hnew F g hF; omega
        · exact ok'.zf F g hF h2.2
      · rcases hg with h2 | h2
        · exact hR.ok.zf G g h h2
        · have := hltf G g h; omega
    · rcases hcase G g hG with ⟨_, h⟩ | ⟨_, h⟩ <;> rcases hcase G' g hG' with ⟨_, h'⟩ | ⟨_, h'⟩
      · exact hinj G G' g h h'
      · obtain ⟨F, hF⟩ := hnm G g h; have := hnew F g hF; have := hltf G' g h'; omega
      · obtain ⟨F, hF⟩ := hnm G' g h'; have := hnew F g hF; have := hltf G g h; omega
      · exact hR.ok.ff G G' g h h'
    · rcases hcase G g hG with ⟨_, h⟩ | ⟨_, h⟩
      · obtain ⟨F, hF⟩ := hnm G g h; have := hnew F g hF; have := hltb b g hb; omega
      · exact hR.ok.bf b G g hb h
  have hb1 : ∀ g, g < c.w.heap.size → c'.w.heap[g]? = c1.w.heap[g]? := fun g hg => by rw [hw1]; exact hblk g hg
  have hS1 : Stays c1 ⟨c'.w, fun g => c1.Z g ∨ (c.w.heap.size ≤ g ∧ c'.Z g), c1.bk, fmR lo hi nm c1.fm⟩ (fun G => lo ≤ G ∧ G < hi) (fun _ => False) :=
    ⟨fun g hg => ⟨.inl hg, hb1 g (hlt1 g hg)⟩, fun b g hb _ => hb, fun G g hG hn => ⟨by show fmR lo hi nm c1.fm G = _; unfold fmR; rw [if_neg hn]; exact hG, hb1 g (hltf G g hG)⟩⟩
  have hφ : ∀ x v, V T c1 x v → x.leaf = true → V T ⟨c'.w, fun g => c1.Z g ∨ (c.w.heap.size ≤ g ∧ c'.Z g), c1.bk, fmR lo hi nm c1.fm⟩ (drpR lo hi x) v := by
    intro x v hx hl
    have same : (∀ G ∈ x.fams, ¬ (lo ≤ G ∧ G < hi)) → V T ⟨c'.w, fun g => c1.Z g ∨ (c.w.heap.size ≤ g ∧ c'.Z g), c1.bk, fmR lo hi nm c1.fm⟩ x v := fun hp => hx.leaf_move hS1 hl hp (fun _ _ => not_false)
    have key : ∀ G, (Nat.ble lo G && Nat.blt G hi) = false → ¬ (lo ≤ G ∧ G < hi) := by
      intro G h hh
      rw [Nat.ble_eq_true_of_le hh.1, show Nat.blt G hi = true from Nat.ble_eq_true_of_le hh.2] at h
      cases h
    cases x <;> first | (simp [AV.leaf] at hl; done) | exact same (by simp [AV.fams]) | skip
    case sl t e xs =>
      cases t <;> first | exact same (by simp [AV.fams]) | skip
      case own G =>
        simp only [drpR]
        cases hq : (Nat.ble lo G && Nat.blt G hi) with
        | true => exact .bad _
        | false => exact same (by intro G' hG'; simp only [AV.fams, List.mem_singleton] at hG'; subst hG'; exact key _ hq)
    case pe t e i o cs =>
      cases t <;> first | exact same (by simp [AV.fams]) | skip
      case own G =>
        simp only [drpR]
        cases hq : (Nat.ble lo G && Nat.blt G hi) with
        | true => exact .bad _
        | false => exact same (by intro G' hG'; simp only [AV.fams, List.mem_singleton] at hG'; subst hG'; exact key _ hq)
  refine ⟨⟨hsz, by rw [← hc0]; exact hS.os, by rw [← hc0]; exact hS.tape, by rw [← hc0]; exact hS.output, fun g hg _ => hblk g hg, fun g hw => ?_, fun g hz => .inl (h01.z g hz), fun g hz => ?_, h01.bk⟩, ?_⟩
  · rcases hw with ⟨b, hb⟩ | ⟨G, hG⟩
    · exact h01.wr g (.inl ⟨b, hb⟩)
    · rcases hcase G g hG with ⟨_, h⟩ | ⟨_, h⟩
      · obtain ⟨F, hF⟩ := hnm G g h; exact .inr (hnew F g hF)
      · exact h01.wr g (.inr ⟨G, h⟩)
  · exact hz.elim (h01.z' g) (fun h => .inr (.inr h.1))
  · obtain ⟨h3, h4⟩ := hR.map hφ (fun _ => False) (fun b k hb _ => ⟨hb, hb1 k (hltb b k hb)⟩)
    exact ⟨hok, h3, fun b x hx => h4 b x hx not_false, hR.d⟩

/-- What has come back, by its new names. -/
theorem V.come {c1 c0 c' : Cx} (hc0 : c0.w = c.w) (hb0 : ∀ b, c0.bk b = none) (hf0 : ∀ F, c0.fm F = none) (hS : Step c0 c') {lo hi : Nat} {m : Nat → Nat} {nm : Nat → Option Nat}
    {x : AV} {v : Value} (hV : V T c' x v) (hp : x.ptrs = []) (hm : ∀ F ∈ x.fams, (lo ≤ m F ∧ m F < hi) ∧ nm (m F) = c'.fm F) (hz : x.hasFz = false ∨ ∀ g, c0.Z g → c1.Z g) :
    V T ⟨c'.w, fun g => c1.Z g ∨ (c.w.heap.size ≤ g ∧ c'.Z g), c1.bk, fmR lo hi nm c1.fm⟩ (x.tr (renF m)) v := by
  have hno : ∀ g, ¬ Wr c0 g := fun g h => h.elim (fun ⟨b, h⟩ => by rw [hb0] at h; cases h) (fun ⟨F, h⟩ => by rw [hf0] at h; cases h)
  refine hV.trM fun y hy hl v hv => ?_
  have hyp : y.ptrs = [] := List.eq_nil_iff_forall_not_mem.2 fun b hb => by have := leaves_ptrs x y hy b hb; rw [hp] at this; cases this
  rcases hz with hz | hz
  · have hyz := leaves_fz x y hy hz
    cases hv <;> first | (simp [AV.leaf] at hl; done) | (simp [AV.hasFz] at hyz; done) | (simp [AV.ptrs] at hyp; done) | skip
    case int k n => exact .int k n
    case bool b => exact .bool b
    case str b => exact .str b
    case nilptr => exact .nilptr
    case nilsl t e => cases t <;> first | (simp [AV.hasFz] at hyz; done) | exact .nilsl _ _
    case nilfn => exact .nilfn
    case nilifc => exact .nilifc
    case nilmp => exact .nilmp
    case bad => exact .bad _
  · have hZ : ∀ g, c'.Z g → (c1.Z g ∨ (c.w.heap.size ≤ g ∧ c'.Z g)) ∧ c'.w.heap[g]? = c'.w.heap[g]? := fun g hg => ⟨(hS.z' g hg).elim (fun h => .inl (hz g h)) (fun h => h.elim (fun h => (hno g h).elim) (fun h => .inr ⟨by rw [← hc0]; exact h, hg⟩)), rfl⟩
    have hS1 : Stays c' ⟨c'.w, fun g => c1.Z g ∨ (c.w.heap.size ≤ g ∧ c'.Z g), c1.bk, fmR lo hi nm c1.fm⟩ (fun _ => True) (fun _ => True) := ⟨hZ, fun _ _ _ h => (h trivial).elim, fun _ _ _ h => (h trivial).elim⟩
    have same : y.fams = [] → V T ⟨c'.w, fun g => c1.Z g ∨ (c.w.heap.size ≤ g ∧ c'.Z g), c1.bk, fmR lo hi nm c1.fm⟩ y v := fun hf => hv.leaf_move hS1 hl (by simp [hf]) (by simp [hyp])
    have hfm : ∀ F, F ∈ y.fams → ∀ g, c'.fm F = some g → fmR lo hi nm c1.fm (m F) = some g := fun F hF g hg => by
      obtain ⟨h1, h2⟩ := hm F (leaves_fams x y hy F hF)
      unfold fmR
      rw [if_pos h1, h2]
      exact hg
    cases y <;> first | (simp [AV.leaf] at hl; done) | exact same rfl | skip
    case sl t e xs =>
      cases t <;> first | exact same rfl | skip
      case own G =>
        cases hv with
        | nilsl => exact .nilsl _ _
        | slo _ _ _ _ g us hF hv ho h1 hs hf h =>
          exact .slo _ e xs v g us (hfm G (by simp [AV.fams]) g hF) hv ho h1 hs hf fun i x j y u a b d => (h i x j y u a b d).flat_move hZ (hf i x a j y b)
    case pe t e i o cs =>
      cases t <;> first | exact same rfl | skip
      case own G =>
        cases hv with
        | peo _ _ _ _ _ g us hF hu hl' hn hf h => exact .peo _ e i o cs g us (hfm G (by simp [AV.fams]) g hF) hu hl' hn hf fun j y u a b => (h j y u a b).flat_move hZ (hf j y a)

theorem idx_get {F : Nat} : ∀ {l : List Nat}, F ∈ l → idx F l < l.length ∧ l[idx F l]? = some F
  | [], h => by cases h
  | G :: Gs, h => by
    unfold idx
    cases hq : Nat.beq F G with
    | true => rw [Nat.eq_of_beq_eq_true hq]; simp
    | false =>
      have hne := beq_false hq
      have := idx_get (F := F) (l := Gs) ((List.mem_cons.1 h).elim (fun e => (hne e).elim) id)
      exact ⟨Nat.succ_lt_succ this.1, by rw [cond_false, List.getElem?_cons_succ]; exact this.2⟩

/-- The functions' facts. -/
def BoxesAt (T : Tab) (c : Cx) (bs : List Box) : Prop := ∀ i x, bs[i]? = some x → ∃ g, c.bk (1000000000 + i) = some g ∧ BoxAt T c g x
/-- A call of it enters its body. -/
def Enters (P : Program) (f : FuncId) : Prop := ∀ (args : Array Value) (w : World), (callFunc f args).run P w = .ok (.enter f args) w
/-- What is asked of one function's contract. -/
def FnOk (P : Program) (T : Tab) (f : FuncId) (S : List AV → List Box → (AV → List Box → Prop) → Prop) : Prop := Enters P f ∧ ∀ (args : List AV) (bs : List Box) (K : AV → List Box → Prop), S args bs K → ∀ (c : Cx) (vs : List Value), c.Ok → (∀ F, c.fm F = none) → VL T c args vs → BoxesAt T c bs →
  Calls P f vs.toArray c.w fun e w' => ∃ v c' res out, e = .returned v ∧ c'.w = w' ∧ c'.Ok ∧ Step c c' ∧ V T c' res v ∧ BoxesAt T c' out ∧ K res out
def CallOk (P : Program) (T : Tab) (R : Contract) : Prop := ∀ (f : FuncId) (args : List AV) (bs : List Box) (K : AV → List Box → Prop), R f args bs K → ∃ S, S args bs K ∧ FnOk P T f S

/-- What is asked of what a call does to a state. -/
def SOk (P : Program) (T : Tab) (f : FuncId) (j : StSpec) : Prop := Enters P f ∧ ∀ (args : List AV) (s : St) (K : AV → St → Prop), j args s K → ∀ (ρ : Nat → Value) (c : Cx) (a : Act) (vs : List Value), Rel T ρ c s a → VL T c args vs →
  Calls P f vs.toArray c.w fun e w' => ∃ v c' s' res, e = .returned v ∧ c'.w = w' ∧ Step c c' ∧ Rel T ρ c' s' a ∧ V T c' res v ∧ K res s'
def JOk (P : Program) (T : Tab) (J : FuncId → Option StSpec) : Prop := ∀ f j, J f = some j → SOk P T f j

theorem call_sound {E : En} (hC : CallOk P E.T E.R) {s : St} {a : Act} (hR : Rel E.T ρ c s a) {d : Option Tmp} (hd : ∀ d', d = some d' → d' < a.tmps.size ∧ d' < 1000000) {f : FuncId} {args : List AV} {vs : List Value} (hV : VL E.T c args vs) {K : St → Prop} (h : callA E s d f args K) :
    Enters P f ∧ Calls P f vs.toArray c.w fun e w' => ∃ v c' s', e = .returned v ∧ c'.w = w' ∧ Step c c' ∧ KeepsB c c' .non (match AV.famsL args with
      | [] => .rng (E.at d) (E.at d + 1000)
      | _ => .all) ∧ Rel E.T ρ c' s' (a.put d v) ∧ K s' := by
  unfold callA at h
  simp only [unq] at h
  rw [forceL2_iff] at h
  cases hp : AV.ptrsL args with
  | cons p ps => rw [hp] at h; exact h.elim
  | nil =>
    rw [hp] at h
    rw [addH_iff, List.append_nil] at h
    obtain ⟨S, hS0, hE, hS1⟩ := hC f _ _ _ h
    refine ⟨hE, Calls.mono (hS1 _ _ _ hS0 (c.lent (AV.famsL args)) vs (lent_ok hR.ok _) (fun _ => rfl) (hV.lend (fun F hF => hF) hp) (fun i x hx => by simp at hx)) ?_⟩
    rintro e w' ⟨v, c', res, out, rfl, hw, ok', hS, hres, -, hK⟩
    have hK1 : (((AV.ptrs res).isEmpty && Nat.blt res.fams.length 1000) = true) ∧ ((((bif res.hasFz then s.frzAll (AV.famsL args) else s).mapA (drpR (E.at d) (E.at d + 1000))).putF d (res.tr (renF fun F => E.at d + idx F res.fams)) K)) := by
      revert hK
      cases ((AV.ptrs res).isEmpty && Nat.blt res.fams.length 1000) with
      | true => exact fun h => ⟨rfl, h⟩
      | false => exact fun h => h.elim
    obtain ⟨hb, hK2⟩ := hK1
    rw [putF_iff] at hK2
    simp only [Bool.and_eq_true, List.isEmpty_iff] at hb
    obtain ⟨hpr, hlt⟩ := hb
    have hlt' : res.fams.length < 1000 := Nat.le_of_ble_eq_true hlt
    -- what the frame has become
    have hkw : ∀ g, g < c.w.heap.size → c'.w.heap[g]? = c.w.heap[g]? := fun g hg => hS.blk g hg (fun h => h.elim (fun ⟨b, h⟩ => by cases h) (fun ⟨F, h⟩ => by cases h))
    have hfrz : ∃ c1, Step c c1 ∧ c1.w = c.w ∧ c1.bk = c.bk ∧ Rel E.T ρ c1 (bif res.hasFz then s.frzAll (AV.famsL args) else s) a ∧ (res.hasFz = false ∨ ∀ g, (c.lent (AV.famsL args)).Z g → c1.Z g) ∧ (AV.famsL args = [] → c1 = c) := by
      by_cases hfam : AV.famsL args = []
      · refine ⟨c, .refl c, rfl, rfl, ?_, .inr fun g hg => ?_, fun _ => rfl⟩
        · rw [hfam]; cases res.hasFz <;> exact hR
        · rw [hfam] at hg; exact hg.elim id (fun ⟨F, hF, _⟩ => by simp at hF)
      cases hz : res.hasFz with
      | false => exact ⟨c, .refl c, rfl, rfl, hR, .inl rfl, fun _ => rfl⟩
      | true =>
        obtain ⟨c1, h1, h2, hb, h3, h4⟩ := Rel.frzAllZ (AV.famsL args) hR
        exact ⟨c1, h1, h2, hb, h3, .inr fun g hg => hg.elim (h1.z g) (fun ⟨F, hF, hg⟩ => h4 F hF g hg), fun h => absurd h hfam⟩
    obtain ⟨c1, h1, h2, hb1, h3, h4, hcc⟩ := hfrz
    have hkb : ∀ b g, c.bk b = some g → c1.bk b = some g := fun b g hb => by rw [hb1]; exact hb
    obtain ⟨lo, hlo⟩ : ∃ lo : Nat, lo = E.at d := ⟨_, rfl⟩
    rw [← hlo] at hK2
    let nm : Nat → Option Nat := fun G => if lo ≤ G then (match res.fams[G - lo]? with
      | some F => if idx F res.fams = G - lo then c'.fm F else none
      | none => none) else none
    have hnm : ∀ G g, nm G = some g → ∃ F, lo ≤ G ∧ idx F res.fams = G - lo ∧ c'.fm F = some g := by
      intro G g hg
      simp only [nm] at hg
      split at hg
      · cases hq : res.fams[G - lo]? with
        | none => rw [hq] at hg; cases hg
        | some F =>
          rw [hq] at hg
          simp only at hg
          split at hg
          · exact ⟨F, by assumption, by assumption, hg⟩
          · cases hg
      · cases hg
    obtain ⟨h5, h6⟩ := Rel.come h1 h2 h3 (c0 := c.lent (AV.famsL args)) rfl (fun _ => rfl) (fun _ => rfl) hS ok' lo (lo + 1000) nm (fun G g hg => let ⟨F, _, _, h⟩ := hnm G g hg; ⟨F, h⟩) (fun G G' g hg hg' => by
      obtain ⟨F, k1, k2, k3⟩ := hnm G g hg
      obtain ⟨F', k1', k2', k3'⟩ := hnm G' g hg'
      have := ok'.ff F F' g k3 k3'
      subst this
      omega)
    have h7 := V.come (c := c) (c1 := c1) (c0 := c.lent (AV.famsL args)) rfl (fun _ => rfl) (fun _ => rfl) hS (lo := lo) (hi := lo + 1000) (m := fun F => lo + idx F res.fams) (nm := nm) hres hpr (fun F hF => by
      obtain ⟨k1, k2⟩ := idx_get hF
      have k3 : lo ≤ lo + idx F res.fams ∧ lo + idx F res.fams < lo + 1000 := ⟨by omega, by omega⟩
      refine ⟨k3, ?_⟩
      simp only [nm]
      rw [if_pos (by omega), show lo + idx F res.fams - lo = idx F res.fams by omega, k2]
      simp) h4
    refine ⟨v, ⟨c'.w, fun g => c1.Z g ∨ (c.w.heap.size ≤ g ∧ c'.Z g), c1.bk, fmR lo (lo + 1000) nm c1.fm⟩, _, rfl, hw, h5, ⟨fun b g hb _ => ⟨hkb b g hb, hkw g (hR.ok.blt b g hb)⟩, fun F g hF hh => ?_⟩, h6.put d hd h7, hK2⟩
    cases hfam : AV.famsL args with
    | cons _ _ => rw [hfam] at hh; simp [Tch.hits] at hh
    | nil =>
      rw [hfam] at hh
      have e1 := hcc hfam
      subst e1
      refine ⟨?_, hkw g (hR.ok.flt F g hF)⟩
      show fmR lo (lo + 1000) nm c1.fm F = some g
      unfold fmR
      rw [if_neg ?_]
      · exact hF
      · rintro ⟨q1, q2⟩
        rw [← hlo] at hh
        have hh : (Nat.ble lo F && Nat.blt F (lo + 1000)) = false := hh
        have b1 : Nat.ble lo F = true := Nat.ble_eq_true_of_le q1
        have b2 : Nat.blt F (lo + 1000) = true := Nat.ble_eq_true_of_le q2
        rw [b1, b2] at hh
        cases hh
end
end Go.Proofs.YtmlgkojmbnjfbaaDoor.A
