/- Steps of a frame: what stays; a state whose leaves are others. -/
import Derived.Test.YtmlgkojmbnjfbaaDoorA4
namespace Go.Proofs.YtmlgkojmbnjfbaaDoor.A
open Go

/-- What a frame may write. -/
def Wr (c : Cx) (g : Nat) : Prop := (∃ b, c.bk b = some g) ∨ ∃ F, c.fm F = some g

/-- From one moment of a frame to a later one. -/
structure Step (c c' : Cx) : Prop where
  size : c.w.heap.size ≤ c'.w.heap.size
  os : c'.w.os = c.w.os
  tape : c'.w.tape = c.w.tape
  output : c'.w.output = c.w.output
  blk : ∀ g, g < c.w.heap.size → ¬ Wr c g → c'.w.heap[g]? = c.w.heap[g]?
  wr : ∀ g, Wr c' g → Wr c g ∨ c.w.heap.size ≤ g
  z : ∀ g, c.Z g → c'.Z g
  z' : ∀ g, c'.Z g → c.Z g ∨ Wr c g ∨ c.w.heap.size ≤ g
  bk : ∀ b, 1000000000 ≤ b → c'.bk b = c.bk b

theorem Step.refl (c : Cx) : Step c c := ⟨Nat.le_refl _, rfl, rfl, rfl, fun _ _ _ => rfl, fun _ h => .inl h, fun _ h => h, fun _ h => .inl h, fun _ _ => rfl⟩
theorem Step.trans {c c' d : Cx} (h : Step c c') (k : Step c' d) : Step c d where
  size := Nat.le_trans h.size k.size
  os := k.os.trans h.os
  tape := k.tape.trans h.tape
  output := k.output.trans h.output
  blk := fun g hg hw => (k.blk g (Nat.lt_of_lt_of_le hg h.size) (fun hw' => (h.wr g hw').elim hw (fun hle => by omega))).trans (h.blk g hg hw)
  wr := fun g hw => (k.wr g hw).elim (h.wr g) (fun hle => .inr (Nat.le_trans h.size hle))
  z := fun g hz => k.z g (h.z g hz)
  z' := fun g hz => by
    rcases k.z' g hz with h1 | h1 | h1
    · exact h.z' g h1
    · exact (h.wr g h1).elim (fun h2 => .inr (.inl h2)) (fun h2 => .inr (.inr h2))
    · exact .inr (.inr (Nat.le_trans h.size h1))
  bk := fun b hb => (k.bk b hb).trans (h.bk b hb)

/-- Boxes that stay. -/
def Tch.hits : Tch → Nat → Bool
  | .non, _ => false
  | .one b, k => Nat.beq b k
  | .all, _ => true
  | .rng lo hi, k => Nat.ble lo k && Nat.blt k hi
def KeepsB (c c' : Cx) (b0 f0 : Tch) : Prop := (∀ b g, c.bk b = some g → b0.hits b = false → c'.bk b = some g ∧ c'.w.heap[g]? = c.w.heap[g]?) ∧ ∀ F g, c.fm F = some g → f0.hits F = false → c'.fm F = some g ∧ c'.w.heap[g]? = c.w.heap[g]?

theorem heap_new (w : World) (o : Obj) : (w.alloc o).heap[w.heap.size]? = some o := by
  show (w.heap.push o)[w.heap.size]? = some o
  simp
theorem heap_old (w : World) (o : Obj) (g : Nat) (h : g < w.heap.size) : (w.alloc o).heap[g]? = w.heap[g]? := by
  show (w.heap.push o)[g]? = w.heap[g]?
  rw [Array.getElem?_push]
  simp [Nat.ne_of_lt h]
theorem size_alloc (w : World) (o : Obj) : (w.alloc o).heap.size = w.heap.size + 1 := by
  show (w.heap.push o).size = _
  simp

section
variable {P : Program} {T : Tab} {ρ : Nat → Value} {c c' : Cx}

theorem VL.tr {φ : AV → AV} (hφ : ∀ x v, V T c x v → x.leaf = true → V T c' (φ x) v) {xs : List AV} {us : List Value} (h : VL T c xs us) : VL T c' (AV.trL φ xs) us := by
  refine ⟨by rw [trL_length]; exact h.1, fun i x u hx hu => ?_⟩
  rw [trL_get] at hx
  cases hc : xs[i]? with
  | none => rw [hc] at hx; cases hx
  | some y => rw [hc] at hx; cases hx; exact (h.2 i y u hc hu).tr hφ
theorem trL_map (φ : AV → AV) : ∀ l : List AV, AV.trL φ l = l.map (AV.tr φ)
  | [] => rfl
  | v :: l => by simp [AV.trL, trL_map φ l]

theorem MapV.tr {φ : AV → AV} (hφ : ∀ x v, V T c x v → x.leaf = true → V T c' (φ x) v) : ∀ {es : List (AV × AV)} {ns : List MapEntry}, MapV T c es ns → MapV T c' (es.map fun p => (p.1, p.2.tr φ)) ns
  | [], [], _ => trivial
  | [], _ :: _, h => h.elim
  | _ :: _, [], h => h.elim
  | _ :: _, _ :: _, h => ⟨h.1, h.2.1.tr hφ, MapV.tr hφ h.2.2⟩
theorem MapV.moved (hS : Stays c c' (fun _ => False) (fun _ => False)) : ∀ {es : List (AV × AV)} {ns : List MapEntry}, MapV T c es ns → MapV T c' es ns
  | [], [], _ => trivial
  | [], _ :: _, h => h.elim
  | _ :: _, [], h => h.elim
  | _ :: _, _ :: _, h => ⟨h.1, h.2.1.move hS, MapV.moved hS h.2.2⟩
theorem BoxAt.tr {φ : AV → AV} (hφ : ∀ x v, V T c x v → x.leaf = true → V T c' (φ x) v) {g : Nat} {x : Box} (h : BoxAt T c g x) (hg : c'.w.heap[g]? = c.w.heap[g]?) : BoxAt T c' g (x.mapA (AV.tr φ)) := by
  cases x with
  | cells e cs =>
    obtain ⟨us, h1, h2, h3⟩ := h
    exact ⟨us, hg.trans h1, by rw [← trL_map]; exact h2.tr hφ, h3⟩
  | mapo es =>
    obtain ⟨ns, clock, h1, h2⟩ := h
    exact ⟨ns, clock, hg.trans h1, h2.tr hφ⟩

/-- A state whose leaves are others, in another moment. -/
theorem Rel.map {s : St} {a : Act} (hR : Rel T ρ c s a) {φ : AV → AV} (hφ : ∀ x v, V T c x v → x.leaf = true → V T c' (φ x) v) (but : Nat → Prop)
    (hb : ∀ b g, c.bk b = some g → ¬ but b → c'.bk b = some g ∧ c'.w.heap[g]? = c.w.heap[g]?) :
    (∀ j, V T c' ((s.mapA φ).t j) (vals ρ a j)) ∧ ∀ b x, (s.mapA φ).h b = some x → ¬ but b → ∃ g, c'.bk b = some g ∧ BoxAt T c' g x := by
  cases s with
  | mk t h =>
    refine ⟨fun j => (hR.t j).tr hφ, fun b x hx hn => ?_⟩
    simp only [St.mapA] at hx
    cases hh : h b with
    | none => rw [hh] at hx; cases hx
    | some y =>
      rw [hh] at hx
      cases hx
      obtain ⟨g, h1, h2⟩ := hR.h b y hh
      obtain ⟨h3, h4⟩ := hb b g h1 hn
      exact ⟨g, h3, h2.tr hφ h4⟩

theorem vals_put (ρ : Nat → Value) (a : Act) (d : Nat) (v : Value) (hd : d < a.tmps.size) (hm : d < 1000000) (j : Nat) : vals ρ (a.put (some d) v) j = if j = d then v else vals ρ a j := by
  unfold vals
  by_cases hj : j < 1000000
  · rw [if_pos hj, if_pos hj]
    simp only [Act.put, Array.getD_eq_getD_getElem?, Array.getElem?_setIfInBounds]
    by_cases h : d = j
    · subst h
      simp [hd]
    · rw [if_neg h, if_neg (fun e => h e.symm)]
  · rw [if_neg hj, if_neg hj, if_neg (by omega)]
theorem getD_put (a : Act) (d : Nat) (v : Value) (hd : d < a.tmps.size) (j : Nat) : (a.put (some d) v).tmps.getD j undef = if j = d then v else a.tmps.getD j undef := by
  simp only [Act.put, Array.getD_eq_getD_getElem?, Array.getElem?_setIfInBounds]
  by_cases h : d = j
  · subst h
    simp [hd]
  · rw [if_neg h, if_neg (fun e => h e.symm)]

/-- A value is put into a place. -/
theorem Rel.put {s : St} {a : Act} (hR : Rel T ρ c s a) (d : Option Tmp) (hd : ∀ d', d = some d' → d' < a.tmps.size ∧ d' < 1000000) {x : AV} {v : Value} (hV : V T c x v) : Rel T ρ c (s.put d x) (a.put d v) := by
  cases d with
  | none => exact hR
  | some d =>
    cases s with
    | mk t h =>
      refine ⟨hR.ok, fun j => ?_, hR.h, hR.d⟩
      rw [vals_put ρ a d v (hd d rfl).1 (hd d rfl).2 j]
      simp only [St.put, upd]
      by_cases hj : j = d
      · subst hj
        simp [hV]
      · rw [if_neg hj]
        cases hb : Nat.beq j d with
        | true => exact absurd (Nat.eq_of_beq_eq_true hb) hj
        | false => exact hR.t j
theorem put_size (a : Act) (d : Option Tmp) (v : Value) : (a.put d v).tmps.size = a.tmps.size := by
  cases d <;> simp [Act.put]

/-- A draw, and whatever else turns no block. -/
theorem Rel.world {s : St} {a : Act} (hR : Rel T ρ c s a) (w : World) (hw : w.heap = c.w.heap) : Rel T ρ { c with w := w } s a := by
  have hS : Stays c { c with w := w } (fun _ => False) (fun _ => False) := ⟨fun g hg => ⟨hg, by rw [hw]⟩, fun b g hg _ => hg, fun F g hF _ => ⟨hF, by rw [hw]⟩⟩
  refine ⟨⟨?_, ?_, ?_, hR.ok.zb, hR.ok.zf, hR.ok.bb, hR.ok.ff, hR.ok.bf, hR.ok.gl.move hS.z⟩, fun j => (hR.t j).move hS, fun b x hx => ?_, hR.d⟩
  · intro g hg; rw [hw]; exact hR.ok.zlt g hg
  · intro b g hg; rw [hw]; exact hR.ok.blt b g hg
  · intro F g hg; rw [hw]; exact hR.ok.flt F g hg
  · obtain ⟨g, h1, h2⟩ := hR.h b x hx
    refine ⟨g, h1, ?_⟩
    cases x with
    | cells e cs =>
      obtain ⟨us, h3, h4, h5⟩ := h2
      exact ⟨us, by rw [hw]; exact h3, ⟨h4.1, fun i x u hx hu => (h4.2 i x u hx hu).move hS⟩, h5⟩
    | mapo es =>
      obtain ⟨ns, clock, h3, h4⟩ := h2
      exact ⟨ns, clock, by rw [hw]; exact h3, h4.moved hS⟩

theorem oneCell_v {x : AV} {v : Value} (h : V T c x v) (hx : x.isCell = true) : v.oneCell' = true := by
  cases h with
  | slo F e xs v g us hF hv ho => rcases ho.2 with ⟨rfl, _⟩ | ⟨_, _, _, rfl, _⟩ <;> rfl
  | _ => first | rfl | (simp [AV.isCell] at hx; done)
theorem all_spec {α : Type} {p : α → Bool} : ∀ {l : List α}, all? p l = true → ∀ (i : Nat) (x : α), l[i]? = some x → p x = true
  | [], _, i, x, h => by simp at h
  | v :: l, h, i, x, hx => by
    simp only [all?, Bool.and_eq_true] at h
    cases i with
    | zero => simp at hx; subst hx; exact h.1
    | succ i => exact all_spec h.2 i x (by simpa using hx)
theorem VL.one {xs : List AV} {us : List Value} (h : VL T c xs us) (hx : all? AV.isCell xs = true) : ∀ u ∈ us, u.oneCell' = true := by
  intro u hu
  obtain ⟨i, hi, rfl⟩ := List.getElem_of_mem hu
  have hi' : i < xs.length := by have := h.1; omega
  exact oneCell_v (h.2 i xs[i] us[i] (List.getElem?_eq_getElem hi') (List.getElem?_eq_getElem hi)) (all_spec hx i _ (List.getElem?_eq_getElem hi'))

/-- A new block, and what is forgotten of the name that it gets. -/
theorem Rel.alloc {s : St} {a : Act} (hR : Rel T ρ c s a) (q : Nat) (hq : q < a.tmps.size ∧ q < 1000000) (d : Nat) (hm : d < 1000000000) (e : TypeId) {cs : List AV} {us : List Value}
    (hV : VL T c cs us) (h1 : ∀ u ∈ us, u.oneCell' = true) :
    ∃ c', Step c c' ∧ c'.w = c.w.alloc (.cells us.toArray e) ∧ KeepsB c c' (.one d) .non ∧ Rel T ρ c' (((s.mapA (fgtB d)).box d (.cells e (AV.trL (fgtB d) cs))).put (some q) (.ptr d 0)) (a.put (some q) (.pointer (some ⟨c.w.heap.size, 0, none⟩))) := by
  let c' : Cx := ⟨c.w.alloc (.cells us.toArray e), c.Z, upd c.bk d (some c.w.heap.size), c.fm⟩
  have hold : ∀ g, g < c.w.heap.size → c'.w.heap[g]? = c.w.heap[g]? := fun g hg => A.heap_old c.w _ g hg
  have hbk : ∀ b, b ≠ d → c'.bk b = c.bk b := fun b hb => by
    show upd c.bk d _ b = _
    unfold upd
    cases hq : Nat.beq b d with
    | true => exact absurd (Nat.eq_of_beq_eq_true hq) hb
    | false => rfl
  have hbd : c'.bk d = some c.w.heap.size := by
    show upd c.bk d _ d = _
    unfold upd
    rw [show Nat.beq d d = true from Nat.beq_refl d]
    rfl
  have hS : Stays c c' (fun _ => False) (fun b => b = d) := ⟨fun g hg => ⟨hg, hold g (hR.ok.zlt g hg)⟩, fun b g hg hn => by rw [hbk b hn]; exact hg, fun F g hF _ => ⟨hF, hold g (hR.ok.flt F g hF)⟩⟩
  have hφ : ∀ x v, V T c x v → x.leaf = true → V T c' (fgtB d x) v := by
    intro x v hx hl
    have same : (∀ b ∈ x.ptrs, ¬ b = d) → V T c' x v := fun hp => hx.leaf_move hS hl (fun _ _ => not_false) hp
    cases x <;> first | (simp [AV.leaf] at hl; done) | exact same (by simp [AV.ptrs]) | skip
    case ptr b o =>
      simp only [fgtB]
      cases hq : Nat.beq b d with
      | true => exact .bad _
      | false => exact same (by simp [AV.ptrs]; intro e; subst e; rw [Nat.beq_refl] at hq; cases hq)
    case mp b =>
      simp only [fgtB]
      cases hq : Nat.beq b d with
      | true => exact .bad _
      | false => exact same (by simp [AV.ptrs]; intro e; subst e; rw [Nat.beq_refl] at hq; cases hq)
  have hok : c'.Ok := by
    have cases_b : ∀ b g, c'.bk b = some g → (b = d ∧ g = c.w.heap.size) ∨ (b ≠ d ∧ c.bk b = some g) := by
      intro b g hg
      by_cases hb : b = d
      · subst hb; rw [hbd] at hg; exact .inl ⟨rfl, (Option.some.inj hg).symm⟩
      · rw [hbk b hb] at hg; exact .inr ⟨hb, hg⟩
    have hsz : c'.w.heap.size = c.w.heap.size + 1 := size_alloc _ _
    refine ⟨fun g hg => by rw [hsz]; have := hR.ok.zlt g hg; omega, fun b g hg => ?_, fun F g hg => by rw [hsz]; have := hR.ok.flt F g hg; omega, fun b g hg hz => ?_, hR.ok.zf, fun b b' g hg hg' => ?_, hR.ok.ff, fun b F g hg hF => ?_, hR.ok.gl.move hS.z⟩
    · rw [hsz]
      rcases cases_b b g hg with ⟨_, rfl⟩ | ⟨_, h⟩
      · omega
      · have := hR.ok.blt b g h; omega
    · rcases cases_b b g hg with ⟨_, rfl⟩ | ⟨_, h⟩
      · have := hR.ok.zlt _ hz; omega
      · exact hR.ok.zb b g h hz
    · rcases cases_b b g hg with ⟨hb, hg1⟩ | ⟨_, h⟩ <;> rcases cases_b b' g hg' with ⟨hb', hg2⟩ | ⟨_, h'⟩
      · rw [hb, hb']
      · have := hR.ok.blt b' g h'; omega
      · have := hR.ok.blt b g h; omega
      · exact hR.ok.bb b b' g h h'
    · rcases cases_b b g hg with ⟨_, rfl⟩ | ⟨_, h⟩
      · have := hR.ok.flt F _ hF; omega
      · exact hR.ok.bf b F g h hF
  refine ⟨c', ⟨by show _ ≤ (c.w.alloc _).heap.size; rw [size_alloc]; omega, rfl, rfl, rfl, fun g hg _ => hold g hg, fun g hw => ?_, fun g hz => hz, fun g hz => .inl hz, fun b hb => hbk b (by omega)⟩, rfl, ⟨fun b g hb hn => ⟨by rw [hbk b (fun e => by rw [e] at hn; simp [Tch.hits] at hn)]; exact hb, hold g (hR.ok.blt b g hb)⟩, fun F g hF _ => ⟨hF, hold g (hR.ok.flt F g hF)⟩⟩, ?_⟩
  · rcases hw with ⟨b, hb⟩ | ⟨F, hF⟩
    · by_cases hbd' : b = d
      · subst hbd'; rw [hbd] at hb; exact .inr (by have := Option.some.inj hb; omega)
      · rw [hbk b hbd'] at hb; exact .inl (.inl ⟨b, hb⟩)
    · exact .inl (.inr ⟨F, hF⟩)
  · obtain ⟨ht, hh⟩ := hR.map hφ (fun b => b = d) (fun b g hg hn => ⟨by rw [hbk b hn]; exact hg, hold g (hR.ok.blt b g hg)⟩)
    have hR' : Rel T ρ c' ((s.mapA (fgtB d)).box d (.cells e (AV.trL (fgtB d) cs))) a := by
      cases s with
      | mk t h =>
        refine ⟨hok, ht, fun b x hx => ?_, hR.d⟩
        by_cases hb : b = d
        · subst hb
          have : x = .cells e (AV.trL (fgtB b) cs) := by
            simp only [St.mapA, St.box, upd] at hx
            rw [show Nat.beq b b = true from Nat.beq_refl b] at hx
            exact (Option.some.inj hx).symm
          subst this
          exact ⟨_, hbd, us, A.heap_new c.w _, hV.tr hφ, h1⟩
        · refine hh b x ?_ hb
          simp only [St.mapA, St.box, upd] at hx ⊢
          cases hq : Nat.beq b d with
          | true => exact absurd (Nat.eq_of_beq_eq_true hq) hb
          | false => rw [hq] at hx; exact hx
    exact hR'.put (some q) (fun d' e => by cases e; exact hq) (.ptr d 0 _ hbd)
/-- A new map, and what is forgotten of the name that it gets. -/
theorem Rel.allocM {s : St} {a : Act} (hR : Rel T ρ c s a) (q : Nat) (hq : q < a.tmps.size ∧ q < 1000000) (d : Nat) (hm : d < 1000000000) :
    ∃ c', Step c c' ∧ c'.w = c.w.alloc (.map #[] 0) ∧ KeepsB c c' (.one d) .non ∧ Rel T ρ c' (((s.mapA (fgtB d)).box d (.mapo [])).put (some q) (.mp d)) (a.put (some q) (.map (some c.w.heap.size))) := by
  let c' : Cx := ⟨c.w.alloc (.map #[] 0), c.Z, upd c.bk d (some c.w.heap.size), c.fm⟩
  have hold : ∀ g, g < c.w.heap.size → c'.w.heap[g]? = c.w.heap[g]? := fun g hg => A.heap_old c.w _ g hg
  have hbk : ∀ b, b ≠ d → c'.bk b = c.bk b := fun b hb => by
    show upd c.bk d _ b = _
    unfold upd
    cases hq : Nat.beq b d with
    | true => exact absurd (Nat.eq_of_beq_eq_true hq) hb
    | false => rfl
  have hbd : c'.bk d = some c.w.heap.size := by
    show upd c.bk d _ d = _
    unfold upd
    rw [show Nat.beq d d = true from Nat.beq_refl d]
    rfl
  have hS : Stays c c' (fun _ => False) (fun b => b = d) := ⟨fun g hg => ⟨hg, hold g (hR.ok.zlt g hg)⟩, fun b g hg hn => by rw [hbk b hn]; exact hg, fun F g hF _ => ⟨hF, hold g (hR.ok.flt F g hF)⟩⟩
  have hφ : ∀ x v, V T c x v → x.leaf = true → V T c' (fgtB d x) v := by
    intro x v hx hl
    have same : (∀ b ∈ x.ptrs, ¬ b = d) → V T c' x v := fun hp => hx.leaf_move hS hl (fun _ _ => not_false) hp
    cases x <;> first | (simp [AV.leaf] at hl; done) | exact same (by simp [AV.ptrs]) | skip
    case ptr b o =>
      simp only [fgtB]
      cases hq : Nat.beq b d with
      | true => exact .bad _
      | false => exact same (by simp [AV.ptrs]; intro e; subst e; rw [Nat.beq_refl] at hq; cases hq)
    case mp b =>
      simp only [fgtB]
      cases hq : Nat.beq b d with
      | true => exact .bad _
      | false => exact same (by simp [AV.ptrs]; intro e; subst e; rw [Nat.beq_refl] at hq; cases hq)
  have hok : c'.Ok := by
    have cases_b : ∀ b g, c'.bk b = some g → (b = d ∧ g = c.w.heap.size) ∨ (b ≠ d ∧ c.bk b = some g) := by
      intro b g hg
      by_cases hb : b = d
      · subst hb; rw [hbd] at hg; exact .inl ⟨rfl, (Option.some.inj hg).symm⟩
      · rw [hbk b hb] at hg; exact .inr ⟨hb, hg⟩
    have hsz : c'.w.heap.size = c.w.heap.size + 1 := size_alloc _ _
    refine ⟨fun g hg => by rw [hsz]; have := hR.ok.zlt g hg; omega, fun b g hg => ?_, fun F g hg => by rw [hsz]; have := hR.ok.flt F g hg; omega, fun b g hg hz => ?_, hR.ok.zf, fun b b' g hg hg' => ?_, hR.ok.ff, fun b F g hg hF => ?_, hR.ok.gl.move hS.z⟩
    · rw [hsz]
      rcases cases_b b g hg with ⟨_, rfl⟩ | ⟨_, h⟩
      · omega
      · have := hR.ok.blt b g h; omega
    · rcases cases_b b g hg with ⟨_, rfl⟩ | ⟨_, h⟩
      · have := hR.ok.zlt _ hz; omega
      · exact hR.ok.zb b g h hz
    · rcases cases_b b g hg with ⟨hb, hg1⟩ | ⟨_, h⟩ <;> rcases cases_b b' g hg' with ⟨hb', hg2⟩ | ⟨_, h'⟩
      · rw [hb, hb']
      · have := hR.ok.blt b' g h'; omega
      · have := hR.ok.blt b g h; omega
      · exact hR.ok.bb b b' g h h'
    · rcases cases_b b g hg with ⟨_, rfl⟩ | ⟨_, h⟩
      · have := hR.ok.flt F _ hF; omega
      · exact hR.ok.bf b F g h hF
  refine ⟨c', ⟨by show _ ≤ (c.w.alloc _).heap.size; rw [size_alloc]; omega, rfl, rfl, rfl, fun g hg _ => hold g hg, fun g hw => ?_, fun g hz => hz, fun g hz => .inl hz, fun b hb => hbk b (by omega)⟩, rfl, ⟨fun b g hb hn => ⟨by rw [hbk b (fun e => by rw [e] at hn; simp [Tch.hits] at hn)]; exact hb, hold g (hR.ok.blt b g hb)⟩, fun F g hF _ => ⟨hF, hold g (hR.ok.flt F g hF)⟩⟩, ?_⟩
  · rcases hw with ⟨b, hb⟩ | ⟨F, hF⟩
    · by_cases hbd' : b = d
      · subst hbd'; rw [hbd] at hb; exact .inr (by have := Option.some.inj hb; omega)
      · rw [hbk b hbd'] at hb; exact .inl (.inl ⟨b, hb⟩)
    · exact .inl (.inr ⟨F, hF⟩)
  · obtain ⟨ht, hh⟩ := hR.map hφ (fun b => b = d) (fun b g hg hn => ⟨by rw [hbk b hn]; exact hg, hold g (hR.ok.blt b g hg)⟩)
    have hR' : Rel T ρ c' ((s.mapA (fgtB d)).box d (.mapo [])) a := by
      cases s with
      | mk t h =>
        refine ⟨hok, ht, fun b x hx => ?_, hR.d⟩
        by_cases hb : b = d
        · subst hb
          have : x = .mapo [] := by
            simp only [St.mapA, St.box, upd] at hx
            rw [show Nat.beq b b = true from Nat.beq_refl b] at hx
            exact (Option.some.inj hx).symm
          subst this
          exact ⟨_, hbd, #[], 0, A.heap_new c.w _, trivial⟩
        · refine hh b x ?_ hb
          simp only [St.mapA, St.box, upd] at hx ⊢
          cases hq : Nat.beq b d with
          | true => exact absurd (Nat.eq_of_beq_eq_true hq) hb
          | false => rw [hq] at hx; exact hx
    exact hR'.put (some q) (fun d' e => by cases e; exact hq) (.mp d _ hbd)
end
end Go.Proofs.YtmlgkojmbnjfbaaDoor.A
