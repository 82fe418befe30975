/- Steps of a frame: own slices. -/
import Derived.Test.YtmlgkojmbnjfbaaDoorA5
namespace Go.Proofs.YtmlgkojmbnjfbaaDoor.A
open Go

theorem upd_eq {α : Type} (f : Nat → α) (k : Nat) (v : α) : upd f k v k = v := by
  unfold upd
  rw [show Nat.beq k k = true from Nat.beq_refl k]
  rfl
theorem upd_ne {α : Type} (f : Nat → α) {k j : Nat} (v : α) (h : j ≠ k) : upd f k v j = f j := by
  unfold upd
  cases hq : Nat.beq j k with
  | true => exact absurd (Nat.eq_of_beq_eq_true hq) h
  | false => rfl
theorem beq_false {a b : Nat} (h : Nat.beq a b = false) : a ≠ b := fun e => by rw [e, Nat.beq_refl] at h; cases h

section
variable {P : Program} {T : Tab} {ρ : Nat → Value} {c : Cx}

/-- What is left of leaves when F's are forgotten. -/
theorem drp_leaf {c' : Cx} {F : Nat} (hS : Stays c c' (fun G => G = F) (fun _ => False)) {x : AV} {v : Value} (hx : V T c x v) (hl : x.leaf = true) : V T c' (drpF F x) v := by
  have same : (∀ G ∈ x.fams, ¬ G = F) → V T c' x v := fun hp => hx.leaf_move hS hl hp (fun _ _ => not_false)
  cases x <;> first | (simp [AV.leaf] at hl; done) | exact same (by simp [AV.fams]) | skip
  case sl t e xs =>
    cases t <;> first | exact same (by simp [AV.fams]) | skip
    case own G =>
      simp only [drpF]
      cases hq : Nat.beq G F with
      | true => exact .bad _
      | false => exact same (by simp [AV.fams]; exact beq_false hq)
  case pe t e i o cs =>
    cases t <;> first | exact same (by simp [AV.fams]) | skip
    case own G =>
      simp only [drpF]
      cases hq : Nat.beq G F with
      | true => exact .bad _
      | false => exact same (by simp [AV.fams]; exact beq_false hq)

/-- Another block is F's from now on (or none); F's old one may have been written. -/
theorem Rel.famB {c0 : Cx} (h0 : Step c0 c) {s : St} {a : Act} (hR : Rel T ρ c s a) (F : Nat) (w' : World) (opt : Option Nat) (hsz : c.w.heap.size ≤ w'.heap.size) (hos : w'.os = c.w.os) (ht : w'.tape = c.w.tape) (ho : w'.output = c.w.output)
    (hblk : ∀ g, g < c.w.heap.size → c.fm F ≠ some g → w'.heap[g]? = c.w.heap[g]?)
    (hopt : ∀ g, opt = some g → g < w'.heap.size ∧ (c.fm F = some g ∨ (c0.w.heap.size ≤ g ∧ ¬ c.Z g ∧ (∀ b, c.bk b ≠ some g) ∧ ∀ G, G ≠ F → c.fm G ≠ some g))) :
    Step c0 ⟨w', c.Z, c.bk, upd c.fm F opt⟩ ∧ Rel T ρ ⟨w', c.Z, c.bk, upd c.fm F opt⟩ (s.mapA (drpF F)) a := by
  have hz : ∀ g, c.Z g → w'.heap[g]? = c.w.heap[g]? := fun g hg => hblk g (hR.ok.zlt g hg) (fun e => hR.ok.zf F g e hg)
  have hbk : ∀ b g, c.bk b = some g → w'.heap[g]? = c.w.heap[g]? := fun b g hg => hblk g (hR.ok.blt b g hg) (fun e => hR.ok.bf b F g hg e)
  have hfm : ∀ G g, c.fm G = some g → G ≠ F → w'.heap[g]? = c.w.heap[g]? := fun G g hg hn => hblk g (hR.ok.flt G g hg) (fun e => hn (hR.ok.ff G F g hg e))
  have hS : Stays c ⟨w', c.Z, c.bk, upd c.fm F opt⟩ (fun G => G = F) (fun _ => False) := ⟨fun g hg => ⟨hg, hz g hg⟩, fun b g hg _ => hg, fun G g hG hn => ⟨by show upd c.fm F opt G = _; rw [upd_ne _ _ hn]; exact hG, hfm G g hG hn⟩⟩
  have hcase : ∀ G g, upd c.fm F opt G = some g → (G = F ∧ opt = some g) ∨ (G ≠ F ∧ c.fm G = some g) := by
    intro G g hg
    by_cases hG : G = F
    · subst hG; rw [upd_eq] at hg; exact .inl ⟨rfl, hg⟩
    · rw [upd_ne _ _ hG] at hg; exact .inr ⟨hG, hg⟩
  have hok : Cx.Ok ⟨w', c.Z, c.bk, upd c.fm F opt⟩ := by
    refine ⟨fun g hg => Nat.lt_of_lt_of_le (hR.ok.zlt g hg) hsz, fun b g hg => Nat.lt_of_lt_of_le (hR.ok.blt b g hg) hsz, fun G g hg => ?_, hR.ok.zb, fun G g hg hzg => ?_, hR.ok.bb, fun G G' g hg hg' => ?_, fun b G g hb hg => ?_, hR.ok.gl.move hS.z⟩
    · rcases hcase G g hg with ⟨_, h⟩ | ⟨_, h⟩
      · exact (hopt g h).1
      · exact Nat.lt_of_lt_of_le (hR.ok.flt G g h) hsz
    · rcases hcase G g hg with ⟨_, h⟩ | ⟨_, h⟩
      · rcases (hopt g h).2 with h2 | h2
        · exact hR.ok.zf F g h2 hzg
        · exact h2.2.1 hzg
      · exact hR.ok.zf G g h hzg
    · have key : ∀ G g, G ≠ F → c.fm G = some g → opt ≠ some g := by
        intro G g hn h ho'
        rcases (hopt g ho').2 with h2 | h2
        · exact hn (hR.ok.ff G F g h h2)
        · exact h2.2.2.2 G hn h
      rcases hcase G g hg with ⟨e1, h⟩ | ⟨n1, h⟩ <;> rcases hcase G' g hg' with ⟨e2, h'⟩ | ⟨n2, h'⟩
      · rw [e1, e2]
      · exact absurd h (key G' g n2 h')
      · exact absurd h' (key G g n1 h)
      · exact hR.ok.ff G G' g h h'
    · rcases hcase G g hg with ⟨_, h⟩ | ⟨_, h⟩
      · rcases (hopt g h).2 with h2 | h2
        · exact hR.ok.bf b F g hb h2
        · exact h2.2.2.1 b hb
      · exact hR.ok.bf b G g hb h
  refine ⟨⟨Nat.le_trans h0.size hsz, hos.trans h0.os, ht.trans h0.tape, ho.trans h0.output, fun g hg hw => (hblk g (Nat.lt_of_lt_of_le hg h0.size) (fun e => (h0.wr g (.inr ⟨F, e⟩)).elim hw (fun hle => by omega))).trans (h0.blk g hg hw), fun g hw => ?_, h0.z, h0.z', h0.bk⟩, ?_⟩
  · rcases hw with ⟨b, hb⟩ | ⟨G, hG⟩
    · exact h0.wr g (.inl ⟨b, hb⟩)
    · rcases hcase G g hG with ⟨_, h⟩ | ⟨_, h⟩
      · rcases (hopt g h).2 with h2 | h2
        · exact h0.wr g (.inr ⟨F, h2⟩)
        · exact .inr h2.1
      · exact h0.wr g (.inr ⟨G, h⟩)
  · obtain ⟨h1, h2⟩ := hR.map (c' := ⟨w', c.Z, c.bk, upd c.fm F opt⟩) (φ := drpF F) (fun x v hx hl => drp_leaf hS hx hl) (fun _ => False) (fun b g hg _ => ⟨hg, hbk b g hg⟩)
    exact ⟨hok, h1, fun b x hx => h2 b x hx not_false, hR.d⟩

theorem Rel.fam {s : St} {a : Act} (hR : Rel T ρ c s a) (F : Nat) (w' : World) (opt : Option Nat) (hsz : c.w.heap.size ≤ w'.heap.size) (hos : w'.os = c.w.os) (ht : w'.tape = c.w.tape) (ho : w'.output = c.w.output)
    (hblk : ∀ g, g < c.w.heap.size → c.fm F ≠ some g → w'.heap[g]? = c.w.heap[g]?) (hopt : ∀ g, opt = some g → g < w'.heap.size ∧ (c.fm F = some g ∨ c.w.heap.size ≤ g)) :
    Step c ⟨w', c.Z, c.bk, upd c.fm F opt⟩ ∧ Rel T ρ ⟨w', c.Z, c.bk, upd c.fm F opt⟩ (s.mapA (drpF F)) a :=
  hR.famB (.refl c) F w' opt hsz hos ht ho hblk fun g hg => ⟨(hopt g hg).1, (hopt g hg).2.imp id fun hle => ⟨hle, fun hz => by have := hR.ok.zlt g hz; omega, fun b hb => by have := hR.ok.blt b g hb; omega, fun G _ hG => by have := hR.ok.flt G g hG; omega⟩⟩

/-- F's slices are written no more. -/
theorem Rel.frz {s : St} {a : Act} (hR : Rel T ρ c s a) (F : Nat) :
    Step c ⟨c.w, fun g => c.Z g ∨ c.fm F = some g, c.bk, upd c.fm F none⟩ ∧ Rel T ρ ⟨c.w, fun g => c.Z g ∨ c.fm F = some g, c.bk, upd c.fm F none⟩ (s.mapA (frzF F)) a ∧
      ∀ x v, V T c x v → V T ⟨c.w, fun g => c.Z g ∨ c.fm F = some g, c.bk, upd c.fm F none⟩ (x.tr (frzF F)) v := by
  have hne : ∀ G g, upd c.fm F none G = some g → G ≠ F ∧ c.fm G = some g := by
    intro G g hg
    by_cases hG : G = F
    · subst hG; rw [upd_eq] at hg; cases hg
    · rw [upd_ne _ _ hG] at hg; exact ⟨hG, hg⟩
  have hS : Stays c ⟨c.w, fun g => c.Z g ∨ c.fm F = some g, c.bk, upd c.fm F none⟩ (fun G => G = F) (fun _ => False) := ⟨fun g hg => ⟨.inl hg, rfl⟩, fun b g hg _ => hg, fun G g hG hn => ⟨by show upd c.fm F none G = _; rw [upd_ne _ _ hn]; exact hG, rfl⟩⟩
  have hok : Cx.Ok ⟨c.w, fun g => c.Z g ∨ c.fm F = some g, c.bk, upd c.fm F none⟩ := by
    refine ⟨fun g hg => hg.elim (hR.ok.zlt g) (hR.ok.flt F g), hR.ok.blt, fun G g hg => hR.ok.flt G g (hne G g hg).2, fun b g hb hg => hg.elim (hR.ok.zb b g hb) (fun h => hR.ok.bf b F g hb h), fun G g hG hg => ?_, hR.ok.bb, fun G G' g hg hg' => hR.ok.ff G G' g (hne G g hg).2 (hne G' g hg').2, fun b G g hb hg => hR.ok.bf b G g hb (hne G g hg).2, hR.ok.gl.move hS.z⟩
    obtain ⟨h1, h2⟩ := hne G g hG
    exact hg.elim (hR.ok.zf G g h2) (fun h => h1 (hR.ok.ff G F g h2 h))
  have hφ : ∀ x v, V T c x v → x.leaf = true → V T ⟨c.w, fun g => c.Z g ∨ c.fm F = some g, c.bk, upd c.fm F none⟩ (frzF F x) v := by
    intro x v hx hl
    have same : (∀ G ∈ x.fams, ¬ G = F) → V T ⟨c.w, fun g => c.Z g ∨ c.fm F = some g, c.bk, upd c.fm F none⟩ x v := fun hp => hx.leaf_move hS hl hp (fun _ _ => not_false)
    cases x <;> first | (simp [AV.leaf] at hl; done) | exact same (by simp [AV.fams]) | skip
    case sl t e xs =>
      cases t <;> first | exact same (by simp [AV.fams]) | skip
      case own G =>
        simp only [frzF]
        cases hq : Nat.beq G F with
        | false => exact same (by simp [AV.fams]; exact beq_false hq)
        | true =>
          have hGF := Nat.eq_of_beq_eq_true hq
          subst hGF
          cases hx with
          | nilsl => exact .nilsl _ _
          | slo _ _ _ _ g us hF hv ho h1 hs hf h =>
            have hcell := ho.cells (g := g) hv
            have hlen := ho.1
            rcases ho.2 with ⟨rfl, h0⟩ | ⟨g', cap, cur, rfl, _, _, hc, hm, _⟩
            · simp [Value.ownBlock] at hv
            · obtain rfl : g' = g := by simpa [Value.ownBlock] using hv
              refine .slf e xs g' 0 cap us (.inr hF) hc hm hlen (fun j u hj => ?_) h1 hs hf (fun i x j y u a b d => (h i x j y u a b d).flat_move hS.z (hf i x a j y b))
              have := hcell j u hj
              rwa [show (⟨g', 0, none⟩ : Addr).add j = ⟨g', 0 + j, none⟩ from by unfold Addr.add; split <;> simp_all] at this
    case pe t e i o cs =>
      cases t <;> first | exact same (by simp [AV.fams]) | skip
      case own G =>
        simp only [frzF]
        cases hq : Nat.beq G F with
        | false => exact same (by simp [AV.fams]; exact beq_false hq)
        | true =>
          have hGF := Nat.eq_of_beq_eq_true hq
          subst hGF
          cases hx with
          | peo _ _ _ _ _ g us hF hu hl hn hf h => exact .pef e i o cs g _ us (.inr hF) hu (reads_of_seg hn.choose_spec.1 hn.choose_spec.2) hf (fun j y u a b => (h j y u a b).flat_move hS.z (hf j y a))
  refine ⟨⟨Nat.le_refl _, rfl, rfl, rfl, fun _ _ _ => rfl, fun g hw => .inl (hw.imp id fun ⟨G, hG⟩ => ⟨G, (hne G g hG).2⟩), fun g hg => .inl hg, fun g hg => hg.imp id fun h => .inl (.inr ⟨F, h⟩), fun b _ => rfl⟩, ?_, fun x v hx => hx.tr hφ⟩
  obtain ⟨h1, h2⟩ := hR.map (c' := ⟨c.w, fun g => c.Z g ∨ c.fm F = some g, c.bk, upd c.fm F none⟩) (φ := frzF F) hφ (fun _ => False) (fun b g hg _ => ⟨hg, rfl⟩)
  exact ⟨hok, h1, fun b x hx => h2 b x hx not_false, hR.d⟩

theorem Rel.frzAll : ∀ (Fs : List Nat) {c : Cx} {s : St} {a : Act}, Rel T ρ c s a → ∃ c', Step c c' ∧ c'.w = c.w ∧ c'.bk = c.bk ∧ Rel T ρ c' (s.frzAll Fs) a ∧ ∀ x v, V T c x v → V T c' (x.frzAll Fs) v
  | [], c, s, a, h => ⟨c, .refl c, rfl, rfl, h, fun _ _ h => h⟩
  | F :: Fs, c, s, a, h => by
    obtain ⟨h1, h2, h3⟩ := h.frz F
    obtain ⟨c', h4, h5, hb, h6, h7⟩ := Rel.frzAll Fs h2
    exact ⟨c', h1.trans h4, h5, hb, h6, fun x v hx => h7 _ _ (h3 x v hx)⟩

theorem Rel.frzAllZ : ∀ (Fs : List Nat) {c : Cx} {s : St} {a : Act}, Rel T ρ c s a → ∃ c', Step c c' ∧ c'.w = c.w ∧ c'.bk = c.bk ∧ Rel T ρ c' (s.frzAll Fs) a ∧ ∀ F ∈ Fs, ∀ g, c.fm F = some g → c'.Z g
  | [], c, s, a, h => ⟨c, .refl c, rfl, rfl, h, fun F hF => by cases hF⟩
  | F :: Fs, c, s, a, h => by
    obtain ⟨h1, h2, h3⟩ := h.frz F
    obtain ⟨c', h4, h5, hb, h6, h7⟩ := Rel.frzAllZ Fs h2
    refine ⟨c', h1.trans h4, h5, hb, h6, fun G hG g hg => ?_⟩
    by_cases hGF : G = F
    · subst hGF; exact h4.z g (.inr hg)
    · exact h7 G ((List.mem_cons.1 hG).elim (fun e => (hGF e).elim) id) g (by show upd c.fm F none G = _; rw [upd_ne _ _ hGF]; exact hg)

/-- A name is nobody's any more. -/
theorem Rel.drop1 {s : St} {a : Act} (hR : Rel T ρ c s a) (F : Nat) : Step c ⟨c.w, c.Z, c.bk, upd c.fm F none⟩ ∧ Rel T ρ ⟨c.w, c.Z, c.bk, upd c.fm F none⟩ (s.mapA (drpF F)) a :=
  hR.fam F c.w none (Nat.le_refl _) rfl rfl rfl (fun _ _ _ => rfl) (fun g h => by cases h)

/-- A variable in memory is written. -/
theorem Rel.store {s : St} {a : Act} (hR : Rel T ρ c s a) {b g : Nat} {e : TypeId} {ds : List AV} {us vs : List Value} (hb : c.bk b = some g) (hblk : c.w.heap[g]? = some (.cells us.toArray e (0, 0)))
    (hV : VL T c ds vs) (h1 : ∀ u ∈ vs, u.oneCell' = true) :
    Step c ⟨c.w.setRow g vs.toArray, c.Z, c.bk, c.fm⟩ ∧ Rel T ρ ⟨c.w.setRow g vs.toArray, c.Z, c.bk, c.fm⟩ (s.box b (.cells e ds)) a := by
  have hold : ∀ k, k ≠ g → (c.w.setRow g vs.toArray).heap[k]? = c.w.heap[k]? := fun k hk => setRow_other c.w g k _ hk
  have hsize : (c.w.setRow g vs.toArray).heap.size = c.w.heap.size := by simp [World.setRow]
  have hS : Stays c ⟨c.w.setRow g vs.toArray, c.Z, c.bk, c.fm⟩ (fun _ => False) (fun _ => False) := ⟨fun k hk => ⟨hk, hold k (fun e => hR.ok.zb b g hb (e ▸ hk))⟩, fun b g hg _ => hg, fun F k hF _ => ⟨hF, hold k (fun e => hR.ok.bf b F g hb (e ▸ hF))⟩⟩
  refine ⟨⟨by rw [hsize]; exact Nat.le_refl _, rfl, rfl, rfl, fun k hk hw => hold k (fun e => hw (.inl ⟨b, e ▸ hb⟩)), fun k h => .inl h, fun _ h => h, fun _ h => .inl h, fun _ _ => rfl⟩, ?_⟩
  cases s with
  | mk t h =>
    refine ⟨⟨fun k hk => by rw [hsize]; exact hR.ok.zlt k hk, fun b k hk => by rw [hsize]; exact hR.ok.blt b k hk, fun F k hk => by rw [hsize]; exact hR.ok.flt F k hk, hR.ok.zb, hR.ok.zf, hR.ok.bb, hR.ok.ff, hR.ok.bf, hR.ok.gl.move hS.z⟩, fun j => (hR.t j).move hS, fun b' x hx => ?_, hR.d⟩
    by_cases hbb : b' = b
    · subst hbb
      have : x = .cells e ds := by
        simp only [St.box, upd_eq] at hx
        exact (Option.some.inj hx).symm
      subst this
      exact ⟨g, hb, vs, setRow_heap c.w g _ _ e _ hblk, ⟨hV.1, fun i x u a b => (hV.2 i x u a b).move hS⟩, h1⟩
    · simp only [St.box, upd_ne _ _ hbb] at hx
      obtain ⟨g', h3, h4⟩ := hR.h b' x hx
      refine ⟨g', h3, ?_⟩
      have hne : g' ≠ g := fun e => hbb (hR.ok.bb b' b g' h3 (e ▸ hb))
      cases x with
      | cells e' cs' =>
        obtain ⟨us', h5, h6, h7⟩ := h4
        exact ⟨us', (hold g' hne).trans h5, ⟨h6.1, fun i x u a b => (h6.2 i x u a b).move hS⟩, h7⟩
      | mapo es =>
        obtain ⟨ns, clock, h5, h6⟩ := h4
        exact ⟨ns, clock, (hold g' hne).trans h5, h6.moved hS⟩
/-- A map is written. -/
theorem Rel.storeM {s : St} {a : Act} (hR : Rel T ρ c s a) {b g : Nat} {es : List (AV × AV)} {ns : Array MapEntry} {clock : Nat} (hb : c.bk b = some g) (hg : g < c.w.heap.size)
    (hV : MapV T c es ns.toList) :
    Step c ⟨{ c.w with heap := c.w.heap.setIfInBounds g (.map ns clock) }, c.Z, c.bk, c.fm⟩ ∧ Rel T ρ ⟨{ c.w with heap := c.w.heap.setIfInBounds g (.map ns clock) }, c.Z, c.bk, c.fm⟩ (s.box b (.mapo es)) a := by
  have hold : ∀ k, k ≠ g → ({ c.w with heap := c.w.heap.setIfInBounds g (.map ns clock) } : World).heap[k]? = c.w.heap[k]? := fun k hk => by show (c.w.heap.setIfInBounds g _)[k]? = _; rw [Array.getElem?_setIfInBounds_ne (fun e => hk e.symm)]
  have hsize : ({ c.w with heap := c.w.heap.setIfInBounds g (.map ns clock) } : World).heap.size = c.w.heap.size := by simp
  have hS : Stays c ⟨{ c.w with heap := c.w.heap.setIfInBounds g (.map ns clock) }, c.Z, c.bk, c.fm⟩ (fun _ => False) (fun _ => False) := ⟨fun k hk => ⟨hk, hold k (fun e => hR.ok.zb b g hb (e ▸ hk))⟩, fun b g hg _ => hg, fun F k hF _ => ⟨hF, hold k (fun e => hR.ok.bf b F g hb (e ▸ hF))⟩⟩
  refine ⟨⟨by rw [hsize]; exact Nat.le_refl _, rfl, rfl, rfl, fun k hk hw => hold k (fun e => hw (.inl ⟨b, e ▸ hb⟩)), fun k h => .inl h, fun _ h => h, fun _ h => .inl h, fun _ _ => rfl⟩, ?_⟩
  cases s with
  | mk t h =>
    refine ⟨⟨fun k hk => by rw [hsize]; exact hR.ok.zlt k hk, fun b k hk => by rw [hsize]; exact hR.ok.blt b k hk, fun F k hk => by rw [hsize]; exact hR.ok.flt F k hk, hR.ok.zb, hR.ok.zf, hR.ok.bb, hR.ok.ff, hR.ok.bf, hR.ok.gl.move hS.z⟩, fun j => (hR.t j).move hS, fun b' x hx => ?_, hR.d⟩
    by_cases hbb : b' = b
    · subst hbb
      have : x = .mapo es := by
        simp only [St.box, upd_eq] at hx
        exact (Option.some.inj hx).symm
      subst this
      exact ⟨g, hb, ns, clock, by show (c.w.heap.setIfInBounds g _)[g]? = _; rw [Array.getElem?_setIfInBounds_self_of_lt hg], hV.moved hS⟩
    · simp only [St.box, upd_ne _ _ hbb] at hx
      obtain ⟨g', h3, h4⟩ := hR.h b' x hx
      refine ⟨g', h3, ?_⟩
      have hne : g' ≠ g := fun e => hbb (hR.ok.bb b' b g' h3 (e ▸ hb))
      cases x with
      | cells e' cs' =>
        obtain ⟨us', h5, h6, h7⟩ := h4
        exact ⟨us', (hold g' hne).trans h5, ⟨h6.1, fun i x u a b => (h6.2 i x u a b).move hS⟩, h7⟩
      | mapo es =>
        obtain ⟨ns, clock, h5, h6⟩ := h4
        exact ⟨ns, clock, (hold g' hne).trans h5, h6.moved hS⟩
end
end Go.Proofs.YtmlgkojmbnjfbaaDoor.A
