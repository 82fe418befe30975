/- A call that is handed boxes and own slices of its caller, and leaves new boxes: what it does to the caller's state. -/
import Derived.Test.YtbpcofnhndgoeaaDoorGC
namespace Go.Proofs.YtbpcofnhndgoeaaDoor.A
open Go
variable {P : Program} {T : Tab}
theorem idx_lt {F : Nat} : ∀ {l : List Nat}, idx F l < l.length → l[idx F l]? = some F
  | [], h => by simp at h
  | G :: Gs, h => by
    unfold idx at h ⊢
    cases hq : Nat.beq F G with
    | true => rw [Nat.eq_of_beq_eq_true hq]; rfl
    | false =>
      rw [hq, cond_false] at h
      rw [cond_false, List.getElem?_cons_succ]
      exact idx_lt (by simpa using h)
theorem idx_of {F : Nat} {l : List Nat} (h : F ∈ l) : idx F l < l.length := (idx_get h).1
theorem idx_mem {F : Nat} {l : List Nat} (h : idx F l < l.length) : F ∈ l := List.mem_of_getElem? (idx_lt h)
/-- No number twice. -/
def nodupN : List Nat → Bool
  | [] => true
  | x :: l => !(Nat.blt (idx x l) l.length) && nodupN l
theorem nodupN_at : ∀ {l : List Nat}, nodupN l = true → ∀ {i : Nat} {x : Nat}, l[i]? = some x → idx x l = i
  | [], _, i, x, h => by simp at h
  | y :: l, h, i, x, hx => by
    simp only [nodupN, Bool.and_eq_true, Bool.not_eq_true'] at h
    unfold idx
    cases i with
    | zero => cases hx; rw [Nat.beq_refl]; rfl
    | succ i =>
      rw [List.getElem?_cons_succ] at hx
      cases hq : Nat.beq x y with
      | true =>
        have := Nat.eq_of_beq_eq_true hq
        subst this
        have h1 := blt_iff.2 (idx_of (List.mem_of_getElem? hx))
        rw [h1] at h
        exact absurd h.1 (by simp)
      | false => rw [cond_false, nodupN_at h.2 hx]

/-- As the call sees them: boxes bn from 10^9 on, own slices fn from 9*10^8 on; all else is forgotten. -/
noncomputable def comeA (bn fn : List Nat) (v : AV) : AV := caseA v
  (fun g e xs => Tag.casesOn g (.sl .nl e xs) (.sl .fz e xs) (fun G => bif Nat.blt (idx G fn) fn.length then .sl (.own (900000000 + idx G fn)) e xs else .bad))
  (fun g e i o cs => Tag.casesOn g (.pe .nl e i o cs) (.pe .fz e i o cs) (fun G => bif Nat.blt (idx G fn) fn.length then .pe (.own (900000000 + idx G fn)) e i o cs else .bad))
  (fun c o => bif Nat.blt (idx c bn) bn.length then .ptr (1000000000 + idx c bn) o else .bad)
  (fun c => bif Nat.blt (idx c bn) bn.length then .mp (1000000000 + idx c bn) else .bad)
/-- Back again: boxes' names, own slices from lo on. -/
noncomputable def backA (all : List Nat) (lo : Nat) (fo : List Nat) (v : AV) : AV := caseA v
  (fun g e xs => Tag.casesOn g (.sl .nl e xs) (.sl .fz e xs) (fun G => bif Nat.blt (idx G fo) fo.length then .sl (.own (lo + idx G fo)) e xs else .bad))
  (fun g e i o cs => Tag.casesOn g (.pe .nl e i o cs) (.pe .fz e i o cs) (fun G => bif Nat.blt (idx G fo) fo.length then .pe (.own (lo + idx G fo)) e i o cs else .bad))
  (fun c o => bif Nat.ble 1000000000 c then Option.rec .bad (fun b => .ptr b o) (all[c - 1000000000]?) else .bad)
  (fun c => bif Nat.ble 1000000000 c then Option.rec .bad (fun b => .mp b) (all[c - 1000000000]?) else .bad)
/-- What stays of the caller's. -/
noncomputable def leftA (fn : List Nat) (lo : Nat) (nn : List Nat) (v : AV) : AV := caseA v
  (fun g e xs => Tag.casesOn g (.sl .nl e xs) (.sl .fz e xs) (fun G => bif Nat.blt (idx G fn) fn.length || (Nat.ble lo G && Nat.blt G (lo + 1000)) then .bad else .sl (.own G) e xs))
  (fun g e i o cs => Tag.casesOn g (.pe .nl e i o cs) (.pe .fz e i o cs) (fun G => bif Nat.blt (idx G fn) fn.length || (Nat.ble lo G && Nat.blt G (lo + 1000)) then .bad else .pe (.own G) e i o cs))
  (fun c o => bif Nat.ble 2000000000 c || Nat.blt (idx c nn) nn.length then .bad else .ptr c o)
  (fun c => bif Nat.ble 2000000000 c || Nat.blt (idx c nn) nn.length then .bad else .mp c)

/-- A leaf that leads to nothing that moves. -/
theorem leaf_same {c c' : Cx} (hZ : ∀ k, c.Z k → c'.Z k ∧ c'.w.heap[k]? = c.w.heap[k]?) {x : AV} {v : Value} (h : V T c x v) (hl : x.leaf = true) (hf : x.fams = []) (hp : x.ptrs = []) : V T c' x v :=
  h.leaf_move (c' := c') (but := fun _ => True) (gone := fun _ => True) ⟨hZ, fun _ _ _ h => (h trivial).elim, fun _ _ _ h => (h trivial).elim⟩ hl (by simp [hf]) (by simp [hp])
/-- A leaf whose own slices, and boxes, bear other numbers. -/
theorem leaf_ren {c c' : Cx} (hZ : ∀ k, c.Z k → c'.Z k ∧ c'.w.heap[k]? = c.w.heap[k]?) {F G : Nat} (hF : ∀ k, c.fm F = some k → c'.fm G = some k ∧ c'.w.heap[k]? = c.w.heap[k]?) :
    (∀ e xs v, V T c (.sl (.own F) e xs) v → V T c' (.sl (.own G) e xs) v) ∧ ∀ e i o cs v, V T c (.pe (.own F) e i o cs) v → V T c' (.pe (.own G) e i o cs) v := by
  constructor
  · intro e xs v h
    cases h with
    | nilsl => exact .nilsl _ _
    | slo _ _ _ _ g us hF' hv ho h1 hs hf h =>
      obtain ⟨a1, a2⟩ := hF g hF'
      exact .slo G e xs v g us a1 hv (A.own_move ho hv a2) h1 hs hf fun i x j y u a b d => (h i x j y u a b d).flat_move hZ (hf i x a j y b)
  · intro e i o cs v h
    cases h with
    | peo _ _ _ _ _ g us hF' hu hl hn hf h =>
      obtain ⟨a1, a2⟩ := hF g hF'
      exact .peo G e i o cs g us a1 hu hl (by rw [a2]; exact hn) hf fun j y u a b => (h j y u a b).flat_move hZ (hf j y a)
theorem comeA_v {c c' : Cx} {bn fn : List Nat} (hZ : ∀ k, c.Z k → c'.Z k ∧ c'.w.heap[k]? = c.w.heap[k]?)
    (hb : ∀ i b g, bn[i]? = some b → idx b bn = i → c.bk b = some g → c'.bk (1000000000 + i) = some g) (hf : ∀ i F k, fn[i]? = some F → idx F fn = i → c.fm F = some k → c'.fm (900000000 + i) = some k ∧ c'.w.heap[k]? = c.w.heap[k]?)
    (x : AV) (v : Value) (h : V T c x v) (hl : x.leaf = true) : V T c' (comeA bn fn x) v := by
  cases x <;> first | (simp [AV.leaf] at hl; done) | exact leaf_same hZ h hl rfl rfl | skip
  case ptr n o =>
    show V T c' (bif Nat.blt (idx n bn) bn.length then .ptr (1000000000 + idx n bn) o else .bad) v
    cases hq : Nat.blt (idx n bn) bn.length with
    | false => exact .bad _
    | true => obtain ⟨g, hg, rfl⟩ := h.ptr_inv; exact .ptr _ _ _ (hb _ _ _ (idx_lt (blt_iff.1 hq)) rfl hg)
  case mp n =>
    show V T c' (bif Nat.blt (idx n bn) bn.length then .mp (1000000000 + idx n bn) else .bad) v
    cases hq : Nat.blt (idx n bn) bn.length with
    | false => exact .bad _
    | true => cases h with | mp _ g hg => exact .mp _ _ (hb _ _ _ (idx_lt (blt_iff.1 hq)) rfl hg)
  case sl t e xs =>
    cases t <;> first | exact leaf_same hZ h hl rfl rfl | skip
    case own G =>
      show V T c' (bif Nat.blt (idx G fn) fn.length then .sl (.own (900000000 + idx G fn)) e xs else .bad) v
      cases hq : Nat.blt (idx G fn) fn.length with
      | false => exact .bad _
      | true => exact (leaf_ren hZ fun k hk => hf _ _ _ (idx_lt (blt_iff.1 hq)) rfl hk).1 e xs v h
  case pe t e i o cs =>
    cases t <;> first | exact leaf_same hZ h hl rfl rfl | skip
    case own G =>
      show V T c' (bif Nat.blt (idx G fn) fn.length then .pe (.own (900000000 + idx G fn)) e i o cs else .bad) v
      cases hq : Nat.blt (idx G fn) fn.length with
      | false => exact .bad _
      | true => exact (leaf_ren hZ fun k hk => hf _ _ _ (idx_lt (blt_iff.1 hq)) rfl hk).2 e i o cs v h
theorem backA_v {c c' : Cx} {all fo : List Nat} {lo : Nat} (hZ : ∀ k, c.Z k → c'.Z k ∧ c'.w.heap[k]? = c.w.heap[k]?)
    (hb : ∀ i b g, all[i]? = some b → c.bk (1000000000 + i) = some g → c'.bk b = some g) (hf : ∀ F k, idx F fo < fo.length → c.fm F = some k → c'.fm (lo + idx F fo) = some k ∧ c'.w.heap[k]? = c.w.heap[k]?)
    (x : AV) (v : Value) (h : V T c x v) (hl : x.leaf = true) : V T c' (backA all lo fo x) v := by
  cases x <;> first | (simp [AV.leaf] at hl; done) | exact leaf_same hZ h hl rfl rfl | skip
  case ptr n o =>
    show V T c' (bif Nat.ble 1000000000 n then Option.rec .bad (fun b => .ptr b o) (all[n - 1000000000]?) else .bad) v
    cases hq : Nat.ble 1000000000 n with
    | false => exact .bad _
    | true =>
      obtain ⟨g, hg, rfl⟩ := h.ptr_inv
      have hn := Nat.le_of_ble_eq_true hq
      cases hi : all[n - 1000000000]? with
      | none => exact .bad _
      | some b => exact .ptr _ _ _ (hb _ _ _ hi (by rw [show 1000000000 + (n - 1000000000) = n by omega]; exact hg))
  case mp n =>
    show V T c' (bif Nat.ble 1000000000 n then Option.rec .bad (fun b => .mp b) (all[n - 1000000000]?) else .bad) v
    cases hq : Nat.ble 1000000000 n with
    | false => exact .bad _
    | true =>
      have hn := Nat.le_of_ble_eq_true hq
      cases hi : all[n - 1000000000]? with
      | none => exact .bad _
      | some b => cases h with | mp _ g hg => exact .mp _ _ (hb _ _ _ hi (by rw [show 1000000000 + (n - 1000000000) = n by omega]; exact hg))
  case sl t e xs =>
    cases t <;> first | exact leaf_same hZ h hl rfl rfl | skip
    case own G =>
      show V T c' (bif Nat.blt (idx G fo) fo.length then .sl (.own (lo + idx G fo)) e xs else .bad) v
      cases hq : Nat.blt (idx G fo) fo.length with
      | false => exact .bad _
      | true => exact (leaf_ren hZ fun k hk => hf _ _ (blt_iff.1 hq) hk).1 e xs v h
  case pe t e i o cs =>
    cases t <;> first | exact leaf_same hZ h hl rfl rfl | skip
    case own G =>
      show V T c' (bif Nat.blt (idx G fo) fo.length then .pe (.own (lo + idx G fo)) e i o cs else .bad) v
      cases hq : Nat.blt (idx G fo) fo.length with
      | false => exact .bad _
      | true => exact (leaf_ren hZ fun k hk => hf _ _ (blt_iff.1 hq) hk).2 e i o cs v h
theorem leftA_v {c c' : Cx} {fn nn : List Nat} {lo : Nat} (hS : Stays c c' (fun F => F ∈ fn ∨ (lo ≤ F ∧ F < lo + 1000)) (fun n => n ∈ nn ∨ 2000000000 ≤ n))
    (x : AV) (v : Value) (h : V T c x v) (hl : x.leaf = true) : V T c' (leftA fn lo nn x) v := by
  have kf : ∀ G, (Nat.blt (idx G fn) fn.length || (Nat.ble lo G && Nat.blt G (lo + 1000))) = false → ¬ (G ∈ fn ∨ (lo ≤ G ∧ G < lo + 1000)) := fun G hq hh => by
    rw [Bool.or_eq_false_iff] at hq
    rcases hh with hh | ⟨h1, h2⟩
    · rw [blt_iff.2 (idx_of hh)] at hq; simp at hq
    · rw [Nat.ble_eq_true_of_le h1, blt_iff.2 h2] at hq; simp at hq
  have kb : ∀ n, (Nat.ble 2000000000 n || Nat.blt (idx n nn) nn.length) = false → ¬ (n ∈ nn ∨ 2000000000 ≤ n) := fun n hq hh => by
    rw [Bool.or_eq_false_iff] at hq
    rcases hh with hh | h1
    · rw [blt_iff.2 (idx_of hh)] at hq; simp at hq
    · rw [Nat.ble_eq_true_of_le h1] at hq; simp at hq
  have same : (∀ F ∈ x.fams, ¬ (F ∈ fn ∨ (lo ≤ F ∧ F < lo + 1000))) → (∀ n ∈ x.ptrs, ¬ (n ∈ nn ∨ 2000000000 ≤ n)) → V T c' x v := fun h1 h2 => h.leaf_move hS hl h1 h2
  cases x <;> first | (simp [AV.leaf] at hl; done) | exact same (by simp [AV.fams]) (by simp [AV.ptrs]) | skip
  case ptr n o =>
    show V T c' (bif Nat.ble 2000000000 n || Nat.blt (idx n nn) nn.length then .bad else .ptr n o) v
    cases hq : Nat.ble 2000000000 n || Nat.blt (idx n nn) nn.length with
    | true => exact .bad _
    | false => exact same (by simp [AV.fams]) (fun m hm => by simp only [AV.ptrs, List.mem_singleton] at hm; subst hm; exact kb _ hq)
  case mp n =>
    show V T c' (bif Nat.ble 2000000000 n || Nat.blt (idx n nn) nn.length then .bad else .mp n) v
    cases hq : Nat.ble 2000000000 n || Nat.blt (idx n nn) nn.length with
    | true => exact .bad _
    | false => exact same (by simp [AV.fams]) (fun m hm => by simp only [AV.ptrs, List.mem_singleton] at hm; subst hm; exact kb _ hq)
  case sl t e xs =>
    cases t <;> first | exact same (by simp [AV.fams]) (by simp [AV.ptrs]) | skip
    case own G =>
      show V T c' (bif Nat.blt (idx G fn) fn.length || (Nat.ble lo G && Nat.blt G (lo + 1000)) then .bad else .sl (.own G) e xs) v
      cases hq : Nat.blt (idx G fn) fn.length || (Nat.ble lo G && Nat.blt G (lo + 1000)) with
      | true => exact .bad _
      | false => exact same (fun m hm => by simp only [AV.fams, List.mem_singleton] at hm; subst hm; exact kf _ hq) (by simp [AV.ptrs])
  case pe t e i o cs =>
    cases t <;> first | exact same (by simp [AV.fams]) (by simp [AV.ptrs]) | skip
    case own G =>
      show V T c' (bif Nat.blt (idx G fn) fn.length || (Nat.ble lo G && Nat.blt G (lo + 1000)) then .bad else .pe (.own G) e i o cs) v
      cases hq : Nat.blt (idx G fn) fn.length || (Nat.ble lo G && Nat.blt G (lo + 1000)) with
      | true => exact .bad _
      | false => exact same (fun m hm => by simp only [AV.fams, List.mem_singleton] at hm; subst hm; exact kf _ hq) (by simp [AV.ptrs])

/-- From one moment to a later one, whoever bears the numbers. -/
structure StepN (c c' : Cx) : Prop where
  size : c.w.heap.size ≤ c'.w.heap.size
  os : c'.w.os = c.w.os
  tape : c'.w.tape = c.w.tape
  output : c'.w.output = c.w.output
  blk : ∀ g, g < c.w.heap.size → ¬ Wr c g → c'.w.heap[g]? = c.w.heap[g]?
  wr : ∀ g, Wr c' g → Wr c g ∨ c.w.heap.size ≤ g
  z : ∀ g, c.Z g → c'.Z g
  z' : ∀ g, c'.Z g → c.Z g ∨ Wr c g ∨ c.w.heap.size ≤ g
theorem Step.toN {c c' : Cx} (h : Step c c') : StepN c c' := ⟨h.size, h.os, h.tape, h.output, h.blk, h.wr, h.z, h.z'⟩
theorem StepN.refl (c : Cx) : StepN c c := (Step.refl c).toN
theorem StepN.trans {c c' d : Cx} (h : StepN c c') (k : StepN c' d) : StepN c d where
  size := Nat.le_trans h.size k.size
  os := k.os.trans h.os
  tape := k.tape.trans h.tape
  output := k.output.trans h.output
  blk := fun g hg hw => (k.blk g (Nat.lt_of_lt_of_le hg h.size) (fun hw' => (h.wr g hw').elim hw (fun hle => by omega))).trans (h.blk g hg hw)
  wr := fun g hw => (k.wr g hw).elim (h.wr g) (fun hle => .inr (Nat.le_trans h.size hle))
  z := fun g hz => k.z g (h.z g hz)
  z' := fun g hz => by
    rcases k.z' g hz with h1 | h1 | h1
    · exact h.z' g h1
    · exact (h.wr g h1).elim (fun h2 => .inr (.inl h2)) (fun h2 => .inr (.inr h2))
    · exact .inr (.inr (Nat.le_trans h.size h1))
/-- Where disks' hidden numbers begin. -/
def nbs : List Box → List Nat
  | [] => []
  | .obj d :: l => d.nb :: nbs l
  | _ :: l => nbs l
theorem nbs_mem : ∀ {l : List Box} {n : Nat}, n ∈ nbs l → ∃ (i : Nat) (d : Dsk), l[i]? = some (.obj d) ∧ d.nb = n
  | [], n, h => by cases h
  | x :: l, n, h => by
    cases x with
    | obj d =>
      rcases List.mem_cons.1 h with rfl | h
      · exact ⟨0, d, rfl, rfl⟩
      · obtain ⟨i, d', h1, h2⟩ := nbs_mem h; exact ⟨i + 1, d', h1, h2⟩
    | _ => obtain ⟨i, d', h1, h2⟩ := nbs_mem (l := l) h; exact ⟨i + 1, d', h1, h2⟩
theorem nbs_of : ∀ {l : List Box} {i : Nat} {d : Dsk}, l[i]? = some (.obj d) → d.nb ∈ nbs l
  | [], i, d, h => by simp at h
  | x :: l, 0, d, h => by cases h; simp [nbs]
  | x :: l, i + 1, d, h => by
    have := nbs_of (l := l) (i := i) (d := d) (by simpa using h)
    cases x <;> simp [nbs, this]
def Hid (l : List Nat) (n : Nat) : Prop := ∃ q ∈ l, q ≤ n ∧ n < q + 1000
/-- Nothing but what is handed over bears a number. -/
def Own1 (c : Cx) (bs : List Box) : Prop := (∀ b g, c.bk b = some g → (1000000000 ≤ b ∧ b < 1000000000 + bs.length) ∨ Hid (nbs bs) b) ∧ ∀ F g, c.fm F = some g → 900000000 ≤ F
/-- A contract: boxes and own slices come in, some may be new behind it. -/
def FnOkN (P : Program) (T : Tab) (f : FuncId) (S : List AV → List Box → (AV → List Box → Prop) → Prop) : Prop := Enters P f ∧ ∀ (args : List AV) (bs : List Box) (K : AV → List Box → Prop), S args bs K → ∀ (c : Cx) (vs : List Value), c.Ok → Own1 c bs → VL T c args vs → BoxesAt T c bs →
  Calls P f vs.toArray c.w fun e w' => ∃ v c' res out, e = .returned v ∧ c'.w = w' ∧ c'.Ok ∧ StepN c c' ∧ V T c' res v ∧ BoxesAt T c' out ∧ bs.length ≤ out.length ∧ (∀ i, i < bs.length → c'.bk (1000000000 + i) = c.bk (1000000000 + i)) ∧ K res out
theorem FnOkN.mono {f : FuncId} {S S' : List AV → List Box → (AV → List Box → Prop) → Prop} (h : FnOkN P T f S) (hm : ∀ args bs K, S' args bs K → S args bs K) : FnOkN P T f S' := ⟨h.1, fun args bs K hS => h.2 args bs K (hm args bs K hS)⟩

/-- The boxes that are handed over. -/
noncomputable def getBs (φ : AV → AV) (s : St) (l : List Nat) : Option (List Box) := List.rec (some []) (fun b _ ih => Option.rec none (fun x => Option.rec none (fun l => some (Box.mapq φ x :: l)) ih) (s.h b)) l
theorem getBs_at {φ : AV → AV} {s : St} : ∀ {l : List Nat} {bs : List Box}, getBs φ s l = some bs → bs.length = l.length ∧ ∀ (i : Nat) (x : Box), bs[i]? = some x → ∃ (b : Nat) (y : Box), l[i]? = some b ∧ s.h b = some y ∧ x = y.mapA (AV.tr φ)
  | [], bs, h => by cases h; exact ⟨rfl, fun i x hx => by simp at hx⟩
  | b :: l, bs, h => by
    change Option.rec none (fun x => Option.rec none (fun l => some (Box.mapq φ x :: l)) (getBs φ s l)) (s.h b) = some bs at h
    cases hb : s.h b with
    | none => rw [hb] at h; cases h
    | some y =>
      rw [hb] at h
      cases hl : getBs φ s l with
      | none => rw [hl] at h; cases h
      | some l' =>
        rw [hl] at h
        obtain ⟨h1, h2⟩ := getBs_at hl
        cases h
        refine ⟨by simp [h1], fun i x hx => ?_⟩
        cases i with
        | zero => cases hx; exact ⟨b, y, rfl, hb, boxq_eq φ y⟩
        | succ i => obtain ⟨b', y', a1, a2, a3⟩ := h2 i x (by simpa using hx); exact ⟨b', y', by simpa using a1, a2, a3⟩
/-- They come back. -/
noncomputable def putBs (s : St) (l : List Nat) (bs : List Box) : St := List.rec (motive := fun _ => List Box → St) (fun _ => s) (fun b _ ih bs => List.casesOn bs s (fun x bs => (ih bs).box b x)) l bs
theorem putBs_t (s : St) : ∀ (l : List Nat) (bs : List Box), (putBs s l bs).t = s.t
  | [], _ => rfl
  | b :: l, [] => rfl
  | b :: l, x :: bs => by
    show ((putBs s l bs).box b x).t = s.t
    rw [← putBs_t s l bs]
    cases putBs s l bs; rfl
theorem putBs_h (s : St) : ∀ (l : List Nat) (bs : List Box), l.length = bs.length → ∀ n, (putBs s l bs).h n = if idx n l < l.length then bs[idx n l]? else s.h n
  | [], [], _, n => by simp [putBs]
  | b :: l, x :: bs, h, n => by
    have e : (putBs s (b :: l) (x :: bs)).h n = upd (putBs s l bs).h b (some x) n := by
      show ((putBs s l bs).box b x).h n = _
      cases putBs s l bs; rfl
    rw [e]
    unfold idx
    cases hq : Nat.beq n b with
    | true => rw [Nat.eq_of_beq_eq_true hq, upd_eq]; simp
    | false =>
      rw [upd_ne _ _ (beq_false hq), putBs_h s l bs (by simpa using h) n, cond_false]
      simp [Nat.succ_lt_succ_iff]
/-- The own slices in a box. -/
noncomputable def Box.famsq (x : Box) : List Nat := Box.casesOn x (fun _ cs => AV.famsL cs) (fun es => List.rec [] (fun p _ ih => AV.fams p.2 ++ ih) es) (fun _ => []) (fun _ _ => []) (fun m _ _ _ => AV.fams m)
noncomputable def famsB (l : List Box) : List Nat := List.rec [] (fun x _ ih => Box.famsq x ++ ih) l
/-- What a call leaves of the caller's state: boxes bn are handed over, with own slices fn; boxes nn are new, own slices are named from lo on. -/
noncomputable def liftJ (S : List AV → List Box → (AV → List Box → Prop) → Prop) : StSpec := fun args s K => ∃ (bn fn nn : List Nat) (lo : Nat),
  (nodupN (bn ++ nn) && nodupN fn && all? (fun b => Nat.blt b 2000000000) bn && all? (fun b => Nat.blt b 1000000000) nn && Nat.blt bn.length 1000) = true ∧ ∃ bs, getBs (comeA bn fn) s bn = some bs ∧
  S (AV.trLq (comeA bn fn) args) bs (fun res out => (Nat.beq out.length (bn.length + nn.length) && Nat.blt out.length 1000 && Nat.blt (AV.fams res ++ famsB out).length 1000) = true ∧
    K (AV.trq (backA (bn ++ nn) lo (AV.fams res ++ famsB out)) res) (putBs ((s.mapQ (leftA fn lo nn)).keepObj (nbs bs ++ nbs out)) (bn ++ nn) (mapq (Box.mapq (backA (bn ++ nn) lo (AV.fams res ++ famsB out))) out)))
theorem lift_ok {f : FuncId} {S : List AV → List Box → (AV → List Box → Prop) → Prop} (h : FnOkN P T f S) : SOk P T f (liftJ S) := by
  refine ⟨h.1, fun args s K hS ρ c a vs hR hV => ?_⟩
  obtain ⟨bn, fn, nn, lo, hchk, bs, hbs, hS⟩ := hS
  simp only [Bool.and_eq_true] at hchk
  obtain ⟨⟨⟨⟨hnd, hnf⟩, hlt2⟩, hlt1⟩, hbl0⟩ := hchk
  have hbl0 := blt_iff.1 hbl0
  obtain ⟨hblen, hbs⟩ := getBs_at hbs
  rw [trLq_eq] at hS
  have hbn2 : ∀ b ∈ bn, b < 2000000000 := fun b hb => blt_iff.1 (all_mem hlt2 b hb)
  have hnn1 : ∀ b ∈ nn, b < 1000000000 := fun b hb => blt_iff.1 (all_mem hlt1 b hb)
  have hall : ∀ b ∈ bn ++ nn, b < 2000000000 := fun b hb => (List.mem_append.1 hb).elim (hbn2 b) fun h => by have := hnn1 b h; omega
  have hidx : ∀ {i b : Nat}, bn[i]? = some b → idx b (bn ++ nn) = i := fun {i b} hi => nodupN_at hnd (by rw [List.getElem?_append_left (List.getElem?_eq_some_iff.1 hi).1]; exact hi)
  have hinj : ∀ {i j b : Nat}, bn[i]? = some b → bn[j]? = some b → i = j := fun h1 h2 => (hidx h1).symm.trans (hidx h2)
  have hnb : ∀ q ∈ nbs bs, 2000000000 ≤ q := fun q hq => by
    obtain ⟨i, d, h1, rfl⟩ := nbs_mem hq
    obtain ⟨b, y, _, h3, h4⟩ := hbs i _ h1
    cases y with
    | obj d' => cases h4; obtain ⟨g, _, h5⟩ := hR.h b _ h3; exact h5.1
    | _ => cases h4
  have hhid : ∀ n, Hid (nbs bs) n → 2000000000 ≤ n := fun n ⟨q, hq, h1, _⟩ => Nat.le_trans (hnb q hq) h1
  classical
  let c0 : Cx := ⟨c.w, c.Z, fun n => if 1000000000 ≤ n ∧ n < 1000000000 + bn.length then (bn[n - 1000000000]?).bind c.bk else if Hid (nbs bs) n then c.bk n else none, fun F => if 900000000 ≤ F then (fn[F - 900000000]?).bind c.fm else none⟩
  have hbc : ∀ n k, c0.bk n = some k → (∃ i b, n = 1000000000 + i ∧ bn[i]? = some b ∧ c.bk b = some k) ∨ (Hid (nbs bs) n ∧ c.bk n = some k) := fun n k hk => by
    have hk : (if 1000000000 ≤ n ∧ n < 1000000000 + bn.length then (bn[n - 1000000000]?).bind c.bk else if Hid (nbs bs) n then c.bk n else none) = some k := hk
    split at hk
    · rename_i hn
      obtain ⟨b, h1, h2⟩ := Option.bind_eq_some_iff.1 hk
      exact .inl ⟨n - 1000000000, b, by omega, h1, h2⟩
    · split at hk
      · rename_i hn; exact .inr ⟨hn, hk⟩
      · cases hk
  have hbi : ∀ i b, bn[i]? = some b → c0.bk (1000000000 + i) = c.bk b := fun i b hi => by
    show (if 1000000000 ≤ 1000000000 + i ∧ 1000000000 + i < 1000000000 + bn.length then (bn[1000000000 + i - 1000000000]?).bind c.bk else _) = _
    rw [if_pos ⟨by omega, by have := (List.getElem?_eq_some_iff.1 hi).1; omega⟩, show 1000000000 + i - 1000000000 = i by omega, hi]
    rfl
  have hbnlen : ∀ n, Hid (nbs bs) n → c0.bk n = c.bk n := fun n hn => by
    show (if 1000000000 ≤ n ∧ n < 1000000000 + bn.length then _ else if Hid (nbs bs) n then c.bk n else none) = _
    have := hhid n hn
    rw [if_neg (by omega), if_pos hn]
  have hfc : ∀ F k, c0.fm F = some k → ∃ i G, F = 900000000 + i ∧ fn[i]? = some G ∧ c.fm G = some k := fun F k hk => by
    have hk : (if 900000000 ≤ F then (fn[F - 900000000]?).bind c.fm else none) = some k := hk
    split at hk
    · rename_i hn
      obtain ⟨G, h1, h2⟩ := Option.bind_eq_some_iff.1 hk
      exact ⟨F - 900000000, G, by omega, h1, h2⟩
    · cases hk
  have hfi : ∀ i G, fn[i]? = some G → c0.fm (900000000 + i) = c.fm G := fun i G hi => by
    show (if 900000000 ≤ 900000000 + i then (fn[900000000 + i - 900000000]?).bind c.fm else none) = _
    rw [if_pos (by omega), show 900000000 + i - 900000000 = i by omega, hi]
    rfl
  -- the blocks that are handed over
  have hw0 : ∀ k, Wr c0 k → (∃ n, c.bk n = some k ∧ (n ∈ bn ∨ Hid (nbs bs) n)) ∨ ∃ G, c.fm G = some k ∧ G ∈ fn := fun k hk => by
    rcases hk with ⟨n, hn⟩ | ⟨F, hF⟩
    · rcases hbc n k hn with ⟨i, b, _, h2, h3⟩ | ⟨h1, h2⟩
      · exact .inl ⟨b, h3, .inl (List.mem_of_getElem? h2)⟩
      · exact .inl ⟨n, h2, .inr h1⟩
    · obtain ⟨i, G, _, h2, h3⟩ := hfc F k hF
      exact .inr ⟨G, h3, List.mem_of_getElem? h2⟩
  have hwc : ∀ k, Wr c0 k → Wr c k := fun k hk => (hw0 k hk).imp (fun ⟨n, h, _⟩ => ⟨n, h⟩) fun ⟨G, h, _⟩ => ⟨G, h⟩
  have ok0 : c0.Ok := by
    refine ⟨hR.ok.zlt, fun n k hk => ?_, fun F k hF => ?_, fun n k hk => ?_, fun F k hF => ?_, fun n n' k h1 h2 => ?_, fun F F' k h1 h2 => ?_, fun n F k hn hF => ?_, hR.ok.gl⟩
    · rcases hbc n k hk with ⟨_, b, _, _, h⟩ | ⟨_, h⟩ <;> exact hR.ok.blt _ k h
    · obtain ⟨_, G, _, _, h⟩ := hfc F k hF; exact hR.ok.flt G k h
    · rcases hbc n k hk with ⟨_, b, _, _, h⟩ | ⟨_, h⟩ <;> exact hR.ok.zb _ k h
    · obtain ⟨_, G, _, _, h⟩ := hfc F k hF; exact hR.ok.zf G k h
    · rcases hbc n k h1 with ⟨i, b, e1, q1, r1⟩ | ⟨q1, r1⟩ <;> rcases hbc n' k h2 with ⟨j, b', e2, q2, r2⟩ | ⟨q2, r2⟩
      · have := hR.ok.bb b b' k r1 r2; subst this; rw [e1, e2, hinj q1 q2]
      · have := hR.ok.bb b n' k r1 r2; subst this; have := hbn2 b (List.mem_of_getElem? q1); have := hhid b q2; omega
      · have := hR.ok.bb b' n k r2 r1; subst this; have := hbn2 b' (List.mem_of_getElem? q2); have := hhid b' q1; omega
      · exact hR.ok.bb n n' k r1 r2
    · obtain ⟨i, G, e1, q1, r1⟩ := hfc F k h1
      obtain ⟨j, G', e2, q2, r2⟩ := hfc F' k h2
      have := hR.ok.ff G G' k r1 r2
      subst this
      rw [e1, e2, ← nodupN_at hnf q1, ← nodupN_at hnf q2]
    · obtain ⟨_, G, _, _, h⟩ := hfc F k hF
      rcases hbc n k hn with ⟨_, b, _, _, h'⟩ | ⟨_, h'⟩ <;> exact hR.ok.bf _ G k h' h
  have hZ0 : ∀ k, c.Z k → c0.Z k ∧ c0.w.heap[k]? = c.w.heap[k]? := fun k hk => ⟨hk, rfl⟩
  have hφ := comeA_v (T := T) (c := c) (c' := c0) (bn := bn) (fn := fn) hZ0 (fun i b g hi _ hg => (hbi i b hi).trans hg) (fun i F k hi _ hk => ⟨(hfi i F hi).trans hk, rfl⟩)
  have own0 : Own1 c0 bs := by
    refine ⟨fun n k hk => ?_, fun F k hF => ?_⟩
    · rcases hbc n k hk with ⟨i, b, rfl, h2, _⟩ | ⟨h, _⟩
      · have := (List.getElem?_eq_some_iff.1 h2).1
        exact .inl ⟨by omega, by omega⟩
      · exact .inr h
    · obtain ⟨i, G, rfl, _⟩ := hfc F k hF; omega
  refine Calls.mono (h.2 _ _ _ hS c0 vs ok0 own0 (hV.tr hφ) ?_) ?_
  · intro i x hx
    obtain ⟨b, y, h1, h2, rfl⟩ := hbs i x hx
    obtain ⟨g, hg, hy⟩ := hR.h b y h2
    refine ⟨g, (hbi i b h1).trans hg, hy.trD hφ rfl fun d hd j k hj hk => ?_⟩
    subst hd
    refine ⟨?_, rfl⟩
    rw [hbnlen _ ⟨d.nb, nbs_of (i := i) (d := d) hx, by omega, by omega⟩]
    exact hk
  rintro e' w' ⟨v, c', res, out, rfl, rfl, ok', hS, hres, hout, hlen, hbk', hchk', hK⟩
  simp only [Bool.and_eq_true] at hchk'
  obtain ⟨⟨hoe, hol⟩, hfl⟩ := hchk'
  have hoe := Nat.eq_of_beq_eq_true hoe
  have hol := blt_iff.1 hol
  have hfl := blt_iff.1 hfl
  rw [mapQ_eq, trq_eq] at hK
  obtain ⟨fo, hfo⟩ : ∃ fo, fo = AV.fams res ++ famsB out := ⟨_, rfl⟩
  obtain ⟨al, hal⟩ : ∃ al, al = bn ++ nn := ⟨_, rfl⟩
  obtain ⟨hs, hhs⟩ : ∃ hs, hs = nbs bs ++ nbs out := ⟨_, rfl⟩
  rw [← hfo, ← hal, ← hhs] at hK
  rw [← hfo] at hfl
  rw [← hal] at hnd hall hidx
  have hallen : al.length = out.length := by rw [hal, List.length_append]; omega
  have hnbo : ∀ q ∈ nbs out, 2000000000 ≤ q := fun q hq => by
    obtain ⟨i, d, h1, rfl⟩ := nbs_mem hq
    obtain ⟨g, _, h5⟩ := hout i _ h1
    exact h5.1
  have hh2 : ∀ n, Hid hs n → 2000000000 ≤ n := fun n ⟨q, hq, h1, _⟩ => by
    rw [hhs] at hq
    exact Nat.le_trans ((List.mem_append.1 hq).elim (hnb q) (hnbo q)) h1
  have hhb : ∀ n, Hid (nbs bs) n → Hid hs n := fun n ⟨q, hq, h⟩ => ⟨q, by rw [hhs]; exact List.mem_append_left _ hq, h⟩
  have hbnal : ∀ b ∈ bn, b ∈ al := fun b hb => by rw [hal]; exact List.mem_append_left _ hb
  have hnnal : ∀ b ∈ nn, b ∈ al := fun b hb => by rw [hal]; exact List.mem_append_right _ hb
  have halb : ∀ b ∈ al, b ∈ bn ∨ b ∈ nn := fun b hb => by rw [hal] at hb; exact List.mem_append.1 hb
  have hsz : c.w.heap.size ≤ c'.w.heap.size := hS.size
  let cf : Cx := ⟨c'.w, c'.Z, fun n => if n ∈ al then c'.bk (1000000000 + idx n al) else if Hid hs n then c'.bk n else c.bk n,
    fun F => if lo ≤ F ∧ F < lo + 1000 then (fo[F - lo]?).bind fun G => if idx G fo = F - lo then c'.fm G else none else if F ∈ fn then none else c.fm F⟩
  have cb : ∀ n k, cf.bk n = some k → (n ∈ al ∧ c'.bk (1000000000 + idx n al) = some k) ∨ (n ∉ al ∧ Hid hs n ∧ c'.bk n = some k) ∨ (n ∉ al ∧ ¬ Hid hs n ∧ c.bk n = some k) := fun n k hk => by
    have hk : (if n ∈ al then c'.bk (1000000000 + idx n al) else if Hid hs n then c'.bk n else c.bk n) = some k := hk
    split at hk
    · exact .inl ⟨by assumption, hk⟩
    · split at hk
      · exact .inr (.inl ⟨by assumption, by assumption, hk⟩)
      · exact .inr (.inr ⟨by assumption, by assumption, hk⟩)
  have cb1 : ∀ n, n ∈ al → cf.bk n = c'.bk (1000000000 + idx n al) := fun n hn => if_pos hn
  have cb2 : ∀ n, n ∉ al → Hid hs n → cf.bk n = c'.bk n := fun n h1 h2 => (if_neg h1).trans (if_pos h2)
  have cb3 : ∀ n, n ∉ al → ¬ Hid hs n → cf.bk n = c.bk n := fun n h1 h2 => (if_neg h1).trans (if_neg h2)
  have cm : ∀ F k, cf.fm F = some k → (∃ G, lo ≤ F ∧ F < lo + 1000 ∧ idx G fo = F - lo ∧ c'.fm G = some k) ∨ (¬ (lo ≤ F ∧ F < lo + 1000) ∧ F ∉ fn ∧ c.fm F = some k) := fun F k hk => by
    have hk : (if lo ≤ F ∧ F < lo + 1000 then (fo[F - lo]?).bind fun G => if idx G fo = F - lo then c'.fm G else none else if F ∈ fn then none else c.fm F) = some k := hk
    split at hk
    · rename_i hF
      obtain ⟨G, h1, h2⟩ := Option.bind_eq_some_iff.1 hk
      split at h2
      · exact .inl ⟨G, hF.1, hF.2, by assumption, h2⟩
      · cases h2
    · split at hk
      · cases hk
      · exact .inr ⟨by assumption, by assumption, hk⟩
  -- what the call could not reach
  have hP : ∀ k, k < c.w.heap.size → ¬ Wr c0 k → c'.w.heap[k]? = c.w.heap[k]? ∧ ¬ Wr c' k ∧ (c'.Z k → c.Z k) := fun k hk hn =>
    ⟨hS.blk k hk hn, fun hw => (hS.wr k hw).elim hn fun h => by
      have : c.w.heap.size ≤ k := h
      omega, fun hz => (hS.z' k hz).elim id fun h => h.elim (fun h => absurd h hn) fun h => by
      have : c.w.heap.size ≤ k := h
      omega⟩
  have hPz : ∀ k, c.Z k → k < c.w.heap.size ∧ ¬ Wr c0 k := fun k hk => ⟨hR.ok.zlt k hk, fun hw => (hw0 k hw).elim (fun ⟨n, h, _⟩ => hR.ok.zb n k h hk) fun ⟨G, h, _⟩ => hR.ok.zf G k h hk⟩
  have hPb : ∀ n k, c.bk n = some k → n ∉ bn → ¬ Hid (nbs bs) n → k < c.w.heap.size ∧ ¬ Wr c0 k := fun n k hn h1 h2 => ⟨hR.ok.blt n k hn, fun hw => (hw0 k hw).elim (fun ⟨m, h, h3⟩ => by
    have := hR.ok.bb n m k hn h
    subst this
    exact h3.elim h1 h2) fun ⟨G, h, _⟩ => hR.ok.bf n G k hn h⟩
  have hPf : ∀ F k, c.fm F = some k → F ∉ fn → k < c.w.heap.size ∧ ¬ Wr c0 k := fun F k hF h1 => ⟨hR.ok.flt F k hF, fun hw => (hw0 k hw).elim (fun ⟨m, h, _⟩ => hR.ok.bf m F k h hF) fun ⟨G, h, h2⟩ => by
    have := hR.ok.ff F G k hF h
    subst this
    exact h1 h2⟩
  have hZ1 : ∀ k, c.Z k → cf.Z k ∧ cf.w.heap[k]? = c.w.heap[k]? := fun k hk => ⟨hS.z k hk, (hP k (hPz k hk).1 (hPz k hk).2).1⟩
  have hidxlt : ∀ n ∈ al, idx n al < 1000 := fun n hn => by have := idx_of hn; omega
  have okf : cf.Ok := by
    refine ⟨ok'.zlt, fun n k hk => ?_, fun F k hF => ?_, fun n k hk hz => ?_, fun F k hF hz => ?_, fun n n' k h1 h2 => ?_, fun F F' k h1 h2 => ?_, fun n F k hn hF => ?_, hR.ok.gl.move hZ1⟩
    · rcases cb n k hk with ⟨_, h⟩ | ⟨_, _, h⟩ | ⟨_, _, h⟩
      · exact ok'.blt _ k h
      · exact ok'.blt _ k h
      · exact Nat.lt_of_lt_of_le (hR.ok.blt n k h) hsz
    · rcases cm F k hF with ⟨G, _, _, _, h⟩ | ⟨_, _, h⟩
      · exact ok'.flt G k h
      · exact Nat.lt_of_lt_of_le (hR.ok.flt F k h) hsz
    · rcases cb n k hk with ⟨_, h⟩ | ⟨_, _, h⟩ | ⟨h1, h2, h⟩
      · exact ok'.zb _ k h hz
      · exact ok'.zb _ k h hz
      · obtain ⟨p1, p2⟩ := hPb n k h (fun hb => h1 (hbnal n hb)) fun hh => h2 (hhb n hh)
        exact hR.ok.zb n k h ((hP k p1 p2).2.2 hz)
    · rcases cm F k hF with ⟨G, _, _, _, h⟩ | ⟨_, h1, h⟩
      · exact ok'.zf G k h hz
      · obtain ⟨p1, p2⟩ := hPf F k h h1
        exact hR.ok.zf F k h ((hP k p1 p2).2.2 hz)
    · have hold : ∀ n k, n ∉ al → ¬ Hid hs n → c.bk n = some k → ¬ Wr c' k := fun n k a1 a2 a3 => by
        obtain ⟨p1, p2⟩ := hPb n k a3 (fun hb => a1 (hbnal n hb)) fun hh => a2 (hhb n hh)
        exact (hP k p1 p2).2.1
      rcases cb n k h1 with ⟨p1, p2⟩ | ⟨p1, p2, p3⟩ | ⟨p1, p2, p3⟩ <;> rcases cb n' k h2 with ⟨q1, q2⟩ | ⟨q1, q2, q3⟩ | ⟨q1, q2, q3⟩
      · have e := ok'.bb _ _ k p2 q2
        have e : idx n al = idx n' al := by omega
        have a1 := idx_lt (idx_of p1)
        have a2 := idx_lt (idx_of q1)
        rw [e] at a1
        exact Option.some.inj (a1.symm.trans a2)
      · have e := ok'.bb _ _ k p2 q3
        have := hh2 n' q2
        have := hidxlt n p1
        omega
      · exact absurd (.inl ⟨_, p2⟩) (hold n' k q1 q2 q3)
      · have e := ok'.bb _ _ k p3 q2
        have := hh2 n p2
        have := hidxlt n' q1
        omega
      · exact ok'.bb _ _ k p3 q3
      · exact absurd (.inl ⟨_, p3⟩) (hold n' k q1 q2 q3)
      · exact absurd (.inl ⟨_, q2⟩) (hold n k p1 p2 p3)
      · exact absurd (.inl ⟨_, q3⟩) (hold n k p1 p2 p3)
      · exact hR.ok.bb n n' k p3 q3
    · rcases cm F k h1 with ⟨G, p1, p2, p3, p4⟩ | ⟨p1, p2, p3⟩ <;> rcases cm F' k h2 with ⟨G', q1, q2, q3, q4⟩ | ⟨q1, q2, q3⟩
      · have := ok'.ff G G' k p4 q4
        subst this
        omega
      · obtain ⟨a1, a2⟩ := hPf F' k q3 q2
        exact absurd (.inr ⟨_, p4⟩) (hP k a1 a2).2.1
      · obtain ⟨a1, a2⟩ := hPf F k p3 p2
        exact absurd (.inr ⟨_, q4⟩) (hP k a1 a2).2.1
      · exact hR.ok.ff F F' k p3 q3
    · have hw : Wr c' k ∨ (c.bk n = some k ∧ n ∉ bn ∧ ¬ Hid (nbs bs) n) := by
        rcases cb n k hn with ⟨_, h⟩ | ⟨_, _, h⟩ | ⟨h1, h2, h⟩
        · exact .inl (.inl ⟨_, h⟩)
        · exact .inl (.inl ⟨_, h⟩)
        · exact .inr ⟨h, fun hb => h1 (hbnal n hb), fun hh => h2 (hhb n hh)⟩
      rcases cm F k hF with ⟨G, _, _, _, h⟩ | ⟨_, h1, h⟩
      · rcases cb n k hn with ⟨_, h'⟩ | ⟨_, _, h'⟩ | ⟨h1, h2, h'⟩
        · exact ok'.bf _ G k h' h
        · exact ok'.bf _ G k h' h
        · obtain ⟨p1, p2⟩ := hPb n k h' (fun hb => h1 (hbnal n hb)) fun hh => h2 (hhb n hh)
          exact (hP k p1 p2).2.1 (.inr ⟨_, h⟩)
      · obtain ⟨p1, p2⟩ := hPf F k h h1
        rcases hw with hw | ⟨hw, _⟩
        · exact (hP k p1 p2).2.1 hw
        · exact hR.ok.bf n F k hw h
  have hψ := backA_v (T := T) (c := c') (c' := cf) (all := al) (fo := fo) (lo := lo) (fun k hk => ⟨hk, rfl⟩) (fun i b g hi hg => by
      rw [cb1 b (List.mem_of_getElem? hi), nodupN_at hnd hi]; exact hg) (fun F k hF hk => ⟨by
      show (if lo ≤ lo + idx F fo ∧ lo + idx F fo < lo + 1000 then (fo[lo + idx F fo - lo]?).bind fun G => if idx G fo = lo + idx F fo - lo then c'.fm G else none else _) = some k
      rw [if_pos ⟨by omega, by omega⟩, show lo + idx F fo - lo = idx F fo by omega, idx_lt hF]
      show (if idx F fo = idx F fo then c'.fm F else none) = some k
      rw [if_pos rfl]; exact hk, rfl⟩)
  have hbnb : ∀ n ∈ bn, cf.bk n = c.bk n := fun n hn => by
    obtain ⟨i, hi⟩ := List.mem_iff_getElem?.1 hn
    rw [cb1 n (hbnal n hn), hidx hi, hbk' i (by have := (List.getElem?_eq_some_iff.1 hi).1; omega), hbi i n hi]
  have hSt : Stays c cf (fun F => F ∈ fn ∨ (lo ≤ F ∧ F < lo + 1000)) (fun n => n ∈ nn ∨ 2000000000 ≤ n) := by
    refine ⟨hZ1, fun n k hk hn => ?_, fun F k hF hn => ?_⟩
    · by_cases hb : n ∈ bn
      · rw [hbnb n hb]; exact hk
      · rw [cb3 n (fun ha => (halb n ha).elim hb fun h => hn (.inl h)) fun hh => hn (.inr (hh2 n hh))]; exact hk
    · obtain ⟨p1, p2⟩ := hPf F k hF fun h => hn (.inl h)
      refine ⟨?_, (hP k p1 p2).1⟩
      show (if lo ≤ F ∧ F < lo + 1000 then _ else if F ∈ fn then none else c.fm F) = some k
      rw [if_neg fun h => hn (.inr h), if_neg fun h => hn (.inl h)]
      exact hF
  have hχ := leftA_v (T := T) hSt
  have hStep : Step c cf := by
    refine ⟨hsz, hS.os, hS.tape, hS.output, fun k hk hw => hS.blk k hk fun h => hw (hwc k h), fun k hk => ?_, fun k hk => hS.z k hk, fun k hk => (hS.z' k hk).imp id (Or.imp (hwc k) id), fun n h1 h2 => ?_⟩
    · have : Wr c' k ∨ Wr c k := by
        rcases hk with ⟨n, hn⟩ | ⟨F, hF⟩
        · rcases cb n k hn with ⟨_, h⟩ | ⟨_, _, h⟩ | ⟨_, _, h⟩
          · exact .inl (.inl ⟨_, h⟩)
          · exact .inl (.inl ⟨_, h⟩)
          · exact .inr (.inl ⟨_, h⟩)
        · rcases cm F k hF with ⟨G, _, _, _, h⟩ | ⟨_, _, h⟩
          · exact .inl (.inr ⟨_, h⟩)
          · exact .inr (.inr ⟨_, h⟩)
      exact this.elim (fun h => (hS.wr k h).imp (hwc k) id) .inl
    · by_cases hb : n ∈ bn
      · exact hbnb n hb
      · exact cb3 n (fun ha => (halb n ha).elim hb fun h => by have := hnn1 n h; omega) fun hh => by have := hh2 n hh; omega
  refine ⟨v, cf, _, _, rfl, rfl, hStep, ⟨okf, fun j => ?_, fun n x hx => ?_, hR.d, fun n hn => ?_⟩, hres.tr hψ, hK⟩
  · rw [putBs_t, keepObj_t]
    obtain ⟨t, hp⟩ := s
    exact (hR.t j).tr hχ
  · rw [putBs_h _ _ _ (by rw [mapq_eq, List.length_map]; exact hallen)] at hx
    split at hx
    · rename_i hi
      rw [mapq_eq, List.getElem?_map] at hx
      obtain ⟨y, hy, rfl⟩ := Option.map_eq_some_iff.1 hx
      obtain ⟨g, hg, hyb⟩ := hout _ y hy
      refine ⟨g, (cb1 n (idx_mem hi)).trans hg, ?_⟩
      rw [boxq_eq]
      refine hyb.trD hψ rfl fun d hd j k hj hk => ⟨?_, rfl⟩
      subst hd
      have hd2 : 2000000000 ≤ d.nb := hyb.1
      rw [cb2 _ (fun ha => by have := hall _ ha; omega) ⟨d.nb, by rw [hhs]; exact List.mem_append_right _ (nbs_of hy), by omega, by omega⟩]
      exact hk
    · rename_i hi
      have hna : n ∉ al := fun ha => hi (idx_of ha)
      obtain ⟨h1, h2⟩ := keepObj_h hx
      have hlt : n < 2000000000 := by
        rcases Nat.lt_or_ge n 2000000000 with h | h
        · exact h
        · rw [hR.nmap _ n h] at h1; cases h1
      have hnh : ¬ Hid hs n := fun hh => by have := hh2 n hh; omega
      obtain ⟨t, hp⟩ := s
      simp only [St.mapA] at h1
      cases hh : hp n with
      | none => rw [hh] at h1; cases h1
      | some y =>
        rw [hh] at h1
        cases h1
        obtain ⟨g, h3, h4⟩ := hR.h n y hh
        obtain ⟨p1, p2⟩ := hPb n g h3 (fun hb => hna (hbnal n hb)) fun hq => hnh (hhb n hq)
        refine ⟨g, (cb3 n hna hnh).trans h3, h4.trD hχ (hP g p1 p2).1 fun d hd j k hj hk => ?_⟩
        subst hd
        have hd2 : 2000000000 ≤ d.nb := h4.1
        have hq : ¬ Hid hs (d.nb + j) := fun ⟨q, q1, q2, q3⟩ => by
          have := h2 d rfl q q1
          omega
        have hqa : d.nb + j ∉ al := fun ha => by have := hall _ ha; omega
        obtain ⟨p1, p2⟩ := hPb _ k hk (fun hb => hqa (hbnal _ hb)) fun hq' => hq (hhb _ hq')
        exact ⟨(cb3 _ hqa hq).trans hk, (hP k p1 p2).1⟩
  · rw [putBs_h _ _ _ (by rw [mapq_eq, List.length_map]; exact hallen), if_neg fun hi => by have := hall n (idx_mem hi); omega]
    cases hq : ((s.mapA (leftA fn lo nn)).keepObj hs).h n with
    | none => rfl
    | some x => have := (keepObj_h hq).1; rw [hR.nmap _ n hn] at this; cases this
end Go.Proofs.YtbpcofnhndgoeaaDoor.A

/- Disks are opened and shut; boxes are named anew; a contract from a body with these. -/
namespace Go.Proofs.YtbpcofnhndgoeaaDoor.A
open Go
variable {P : Program} {T : Tab}
/-- The same world, seen otherwise. -/
structure GStep (n : Nat) (c c' : Cx) : Prop where
  w : c'.w = c.w
  wr : ∀ k, Wr c' k → Wr c k
  z : ∀ k, c.Z k → c'.Z k
  z' : ∀ k, c'.Z k → c.Z k ∨ Wr c k
  bk : ∀ i, i < n → c'.bk (1000000000 + i) = c.bk (1000000000 + i)
theorem GStep.toN {n : Nat} {c c' : Cx} (h : GStep n c c') : StepN c c' := by
  refine ⟨by rw [h.w]; exact Nat.le_refl _, by rw [h.w], by rw [h.w], by rw [h.w], fun g _ _ => by rw [h.w], fun g hg => .inl (h.wr g hg), h.z, fun g hg => (h.z' g hg).imp id .inl⟩
theorem GStep.refl (n : Nat) (c : Cx) : GStep n c c := ⟨rfl, fun _ h => h, fun _ h => h, fun _ h => .inl h, fun _ _ => rfl⟩
theorem GStep.trans {n : Nat} {c c' d : Cx} (h : GStep n c c') (k : GStep n c' d) : GStep n c d :=
  ⟨k.w.trans h.w, fun g hg => h.wr g (k.wr g hg), fun g hg => k.z g (h.z g hg), fun g hg => (k.z' g hg).elim (h.z' g) fun h1 => .inr (h.wr g h1), fun i hi => (k.bk i hi).trans (h.bk i hi)⟩

/-- A box bears another number. -/
noncomputable def moveA (b b' : Nat) (v : AV) : AV := caseA v .sl .pe (fun c o => bif Nat.beq c b' then .bad else bif Nat.beq c b then .ptr b' o else .ptr c o) (fun c => bif Nat.beq c b' then .bad else bif Nat.beq c b then .mp b' else .mp c)
noncomputable def moveS (s : St) (b b' : Nat) (x : Box) : St := St.casesOn (s.mapQ (moveA b b')) fun t h => ⟨t, upd (upd h b none) b' (some (Box.mapq (moveA b b') x))⟩
theorem Rel.move {ρ : Nat → Value} {c : Cx} {s : St} {a : Act} (hR : Rel T ρ c s a) {n b b' : Nat} {x : Box} (hx : s.h b = some x) (h1 : b < 1000000000) (h2 : 1000000000 + n ≤ b') (h3 : b' < 2000000000) :
    ∃ c', GStep n c c' ∧ Rel T ρ c' (moveS s b b' x) a := by
  let c' : Cx := ⟨c.w, c.Z, fun m => if m = b' then c.bk b else if m = b then none else c.bk m, c.fm⟩
  have hc : ∀ m k, c'.bk m = some k → (m = b' ∧ c.bk b = some k) ∨ (m ≠ b' ∧ m ≠ b ∧ c.bk m = some k) := fun m k hk => by
    have hk : (if m = b' then c.bk b else if m = b then none else c.bk m) = some k := hk
    split at hk
    · exact .inl ⟨by assumption, hk⟩
    · split at hk
      · cases hk
      · exact .inr ⟨by assumption, by assumption, hk⟩
  have hb' : c'.bk b' = c.bk b := if_pos rfl
  have ho : ∀ m, m ≠ b' → m ≠ b → c'.bk m = c.bk m := fun m q1 q2 => (if_neg q1).trans (if_neg q2)
  have hwr : ∀ k, Wr c' k → Wr c k := fun k hk => by
    rcases hk with ⟨m, hm⟩ | hF
    · rcases hc m k hm with ⟨_, h⟩ | ⟨_, _, h⟩ <;> exact .inl ⟨_, h⟩
    · exact .inr hF
  have hok : c'.Ok := by
    refine ⟨hR.ok.zlt, fun m k hk => ?_, hR.ok.flt, fun m k hk => ?_, hR.ok.zf, fun m m' k q1 q2 => ?_, hR.ok.ff, fun m F k hm hF => ?_, hR.ok.gl⟩
    · rcases hc m k hk with ⟨_, h⟩ | ⟨_, _, h⟩ <;> exact hR.ok.blt _ k h
    · rcases hc m k hk with ⟨_, h⟩ | ⟨_, _, h⟩ <;> exact hR.ok.zb _ k h
    · rcases hc m k q1 with ⟨e1, r1⟩ | ⟨d1, e1, r1⟩ <;> rcases hc m' k q2 with ⟨e2, r2⟩ | ⟨d2, e2, r2⟩
      · rw [e1, e2]
      · exact absurd (hR.ok.bb b m' k r1 r2) fun e => e2 e.symm
      · exact absurd (hR.ok.bb m b k r1 r2) e1
      · exact hR.ok.bb m m' k r1 r2
    · rcases hc m k hm with ⟨_, h⟩ | ⟨_, _, h⟩ <;> exact hR.ok.bf _ F k h hF
  have hZ : ∀ k, c.Z k → c'.Z k ∧ c'.w.heap[k]? = c.w.heap[k]? := fun k hk => ⟨hk, rfl⟩
  have hS : Stays c c' (fun _ => False) (fun m => m = b ∨ m = b') := ⟨hZ, fun m k hk hn => (ho m (fun e => hn (.inr e)) fun e => hn (.inl e)).trans hk, fun F k hk _ => ⟨hk, rfl⟩⟩
  have hφ : ∀ x v, V T c x v → x.leaf = true → V T c' (moveA b b' x) v := by
    intro x v h hl
    have same : (∀ m ∈ x.ptrs, ¬ (m = b ∨ m = b')) → V T c' x v := fun hp => h.leaf_move hS hl (fun _ _ => not_false) hp
    cases x <;> first | (simp [AV.leaf] at hl; done) | exact same (by simp [AV.ptrs]) | skip
    case ptr m o =>
      show V T c' (bif Nat.beq m b' then .bad else bif Nat.beq m b then .ptr b' o else .ptr m o) v
      cases hq : Nat.beq m b' with
      | true => exact .bad _
      | false =>
        cases hq2 : Nat.beq m b with
        | true =>
          have := Nat.eq_of_beq_eq_true hq2
          subst this
          obtain ⟨g, hg, rfl⟩ := h.ptr_inv
          exact .ptr _ _ _ (hb'.trans hg)
        | false => exact same (by simp only [AV.ptrs, List.mem_singleton]; rintro k rfl; exact fun h => h.elim (beq_false hq2) (beq_false hq))
    case mp m =>
      show V T c' (bif Nat.beq m b' then .bad else bif Nat.beq m b then .mp b' else .mp m) v
      cases hq : Nat.beq m b' with
      | true => exact .bad _
      | false =>
        cases hq2 : Nat.beq m b with
        | true =>
          have := Nat.eq_of_beq_eq_true hq2
          subst this
          cases h with | mp _ g hg => exact .mp _ _ (hb'.trans hg)
        | false => exact same (by simp only [AV.ptrs, List.mem_singleton]; rintro k rfl; exact fun h => h.elim (beq_false hq2) (beq_false hq))
  have ht : (moveS s b b' x).t = (s.mapA (moveA b b')).t := by unfold moveS; rw [mapQ_eq]
  have hmh : ∀ m, (moveS s b b' x).h m = if m = b' then some (x.mapA (AV.tr (moveA b b'))) else if m = b then none else (s.mapA (moveA b b')).h m := fun m => by
    unfold moveS
    rw [mapQ_eq, boxq_eq]
    show upd (upd (s.mapA (moveA b b')).h b none) b' _ m = _
    by_cases e1 : m = b'
    · rw [e1, upd_eq, if_pos rfl]
    · rw [upd_ne _ _ e1, if_neg e1]
      by_cases e2 : m = b
      · rw [e2, upd_eq, if_pos rfl]
      · rw [upd_ne _ _ e2, if_neg e2]
  refine ⟨c', ⟨rfl, hwr, fun k h => h, fun k h => .inl h, fun i hi => ho _ (by omega) (by omega)⟩, hR.over rfl hok hφ ht (fun m y hy => ?_) fun m hm => ?_⟩
  · rw [hmh] at hy
    split at hy
    · rename_i e
      subst e
      cases hy
      obtain ⟨g, h4, h5⟩ := hR.h b x hx
      refine .inl ⟨g, hb'.trans h4, h5.trD hφ rfl fun d hd i k hi hk => ⟨?_, rfl⟩⟩
      subst hd
      have : 2000000000 ≤ d.nb := h5.1
      exact (ho _ (by omega) (by omega)).trans hk
    · split at hy
      · cases hy
      · rename_i e1 e2
        exact .inr ⟨hy, fun g hg => (ho _ e1 e2).trans hg, fun d _ hd i k _ hk => (ho _ (by omega) (by omega)).trans hk⟩
  · rw [hmh, if_neg (by omega), if_neg (by omega)]
    exact hR.nmap _ m hm

end Go.Proofs.YtbpcofnhndgoeaaDoor.A

/- A disk is shut; a contract from a body, with what is opened ahead of it, and shut behind it. -/
namespace Go.Proofs.YtbpcofnhndgoeaaDoor.A
open Go
variable {P : Program} {T : Tab}
/-- The files, as they stand in the boxes. -/
def FilesS (s : St) (d : Dsk) : List (Int × List Int × Int) → List (AV × AV) → List Nat → List Tag → Prop
  | [], [], [], [] => True
  | f :: fs, e :: es, b :: fb, g :: fg => e = (.int .i64 f.1, .ptr b 0) ∧ s.h b = some (.cells d.tf [.sl g d.tb (f.2.1.map (AV.int .u8)), .int .i64 f.2.2]) ∧ g ≠ .fz ∧ FilesS s d fs es fb fg
  | _, _, _, _ => False
def famsT : List Tag → List Nat
  | [] => []
  | .own F :: l => F :: famsT l
  | _ :: l => famsT l
theorem famsT_at : ∀ {l : List Tag}, nodupN (famsT l) = true → ∀ {i j F : Nat}, l[i]? = some (.own F) → l[j]? = some (.own F) → i = j
  | [], _, i, j, F, h, _ => by simp at h
  | g :: l, hn, i, j, F, h, h' => by
    have mem : ∀ {l : List Tag} {i F : Nat}, l[i]? = some (.own F) → F ∈ famsT l := by
      intro l
      induction l with
      | nil => intro i F h; simp at h
      | cons g l ih =>
        intro i F h
        cases i with
        | zero => cases h; simp [famsT]
        | succ i => have := ih (i := i) (by simpa using h); cases g <;> simp [famsT, this]
    have hn' : nodupN (famsT l) = true := by
      cases g with
      | own G => simp only [famsT, nodupN, Bool.and_eq_true] at hn; exact hn.2
      | _ => exact hn
    have hne : ∀ G, g = .own G → G ∉ famsT l := fun G e hm => by
      subst e
      simp only [famsT, nodupN, Bool.and_eq_true, Bool.not_eq_true'] at hn
      rw [blt_iff.2 (idx_of hm)] at hn
      exact absurd hn.1 (by simp)
    cases i with
    | zero =>
      cases j with
      | zero => rfl
      | succ j => cases h; exact absurd (mem (i := j) (by simpa using h')) (hne F rfl)
    | succ i =>
      cases j with
      | zero => cases h'; exact absurd (mem (i := i) (by simpa using h)) (hne F rfl)
      | succ j => rw [famsT_at hn' (i := i) (j := j) (by simpa using h) (by simpa using h')]
theorem famsT_mem : ∀ {l : List Tag} {F : Nat}, F ∈ famsT l ↔ ∃ i : Nat, l[i]? = some (.own F)
  | [], F => by simp [famsT]
  | g :: l, F => by
    have ih := famsT_mem (l := l) (F := F)
    constructor
    · intro h
      cases g with
      | own G =>
        rcases List.mem_cons.1 h with rfl | h
        · exact ⟨0, rfl⟩
        · obtain ⟨i, hi⟩ := ih.1 h; exact ⟨i + 1, by simpa using hi⟩
      | _ => obtain ⟨i, hi⟩ := ih.1 h; exact ⟨i + 1, by simpa using hi⟩
    · rintro ⟨i, hi⟩
      cases i with
      | zero => cases hi; simp [famsT]
      | succ i => have := ih.2 ⟨i, by simpa using hi⟩; cases g <;> simp [famsT, this]
noncomputable def clsS (s : St) (b bm : Nat) (d : Dsk) (fb : List Nat) (fg : List Tag) : St :=
  St.casesOn ((s.mapQ (fgtA (fun F => Nat.blt (idx F (famsT fg)) (famsT fg).length) fun n => Nat.ble 2000000000 n || Nat.blt (idx n (bm :: fb)) (bm :: fb).length)).keepObj [d.nb]) fun t h =>
    ⟨t, upd (fun n => bif Nat.blt (idx n (bm :: fb)) (bm :: fb).length then none else h n) b (some (.obj d))⟩
def famV (c : Cx) : Tag → Option Nat
  | .own F => c.fm F
  | _ => none
/-- What the hidden numbers name. -/
def ibs (c : Cx) : List Nat → List Tag → List (Option Nat)
  | b :: fb, g :: fg => c.bk b :: famV c g :: ibs c fb fg
  | _, _ => []
theorem ibs_at (c : Cx) : ∀ (fb : List Nat) (fg : List Tag) (j k : Nat), (ibs c fb fg)[j]? = some (some k) → (j % 2 = 0 ∧ ∃ b, fb[j / 2]? = some b ∧ c.bk b = some k) ∨ (j % 2 = 1 ∧ ∃ F, fg[j / 2]? = some (.own F) ∧ c.fm F = some k)
  | [], [], j, k, h => by simp [ibs] at h
  | [], _ :: _, j, k, h => by simp [ibs] at h
  | _ :: _, [], j, k, h => by simp [ibs] at h
  | b :: fb, g :: fg, j, k, h => by
    rw [ibs] at h
    match j, h with
    | 0, h => exact .inl ⟨rfl, b, rfl, by simpa using h⟩
    | 1, h =>
      have h : famV c g = some k := by simpa using h
      cases g with
      | own F => exact .inr ⟨rfl, F, rfl, h⟩
      | _ => cases h
    | j + 2, h =>
      have := ibs_at c fb fg j k (by simpa using h)
      rw [show (j + 2) % 2 = j % 2 by omega, show (j + 2) / 2 = j / 2 + 1 by omega]
      simpa using this
theorem ibs_length (c : Cx) : ∀ (fb : List Nat) (fg : List Tag), (ibs c fb fg).length ≤ 2 * fb.length
  | [], [] => by simp [ibs]
  | [], _ :: _ => by simp [ibs]
  | _ :: _, [] => by simp [ibs]
  | b :: fb, g :: fg => by
    have := ibs_length c fb fg
    simp only [ibs, List.length_cons]
    omega
theorem bytes_at {c : Cx} {d : Dsk} (hs : T.size d.tb = 1) {v : Value} {bs : List Int} {g : Tag} (hg : g ≠ .fz) (h : V T c (.sl g d.tb (bs.map (AV.int .u8))) v) : BytesAt d c.w v bs (famV c g) := by
  generalize hxs : bs.map (AV.int .u8) = xs at h
  cases h with
  | nilsl => exact .inl ⟨rfl, List.map_eq_nil_iff.1 hxs⟩
  | slf => exact absurd rfl hg
  | empt => exact absurd rfl hg
  | slo F _ _ _ k us hF hv ho h1 hs' hf h =>
    refine .inr ⟨k, hF, hv, ?_⟩
    have hl : bs.length = xs.length := by rw [← hxs, List.length_map]
    have e : us = bs.map (Value.int .u8) := by
      refine List.ext_getElem? fun i => ?_
      have hul : us.length = xs.length := by have := ho.1; rw [hs, Nat.mul_one] at this; exact this
      rw [List.getElem?_map]
      cases hb : bs[i]? with
      | none =>
        rw [List.getElem?_eq_none_iff] at hb
        rw [List.getElem?_eq_none (by omega)]; rfl
      | some n =>
        have hi := (List.getElem?_eq_some_iff.1 hb).1
        have hx : xs[i]? = some (.int .u8 n) := by rw [← hxs, List.getElem?_map, hb]; rfl
        have hu : us[i]? = some us[i] := List.getElem?_eq_getElem (by omega)
        have := h i _ 0 (.int .u8 n) us[i] hx rfl (by rw [hs, Nat.mul_one, Nat.add_zero]; exact hu)
        rw [hu, this.int_inv]
        rfl
    rw [← e, hl, ← hs]
    exact ho
theorem files_cls {c : Cx} {s : St} {d : Dsk} (hs : T.size d.tb = 1) (hH : ∀ b x, s.h b = some x → ∃ g, c.bk b = some g ∧ BoxAt T c g x) : ∀ (fs : List (Int × List Int × Int)) (es : List (AV × AV)) (fb : List Nat) (fg : List Tag) (ns : List MapEntry), FilesS s d fs es fb fg → MapV T c es ns → FilesAt d c.w fs ns (ibs c fb fg)
  | [], [], [], [], [], _, _ => by simp [FilesAt, ibs]
  | [], [], [], [], _ :: _, _, h => h.elim
  | [], [], [], _ :: _, _, h, _ => h.elim
  | [], [], _ :: _, _, _, h, _ => h.elim
  | [], _ :: _, _, _, _, h, _ => h.elim
  | _ :: _, [], _, _, _, h, _ => h.elim
  | _ :: _, _ :: _, [], _, _, h, _ => h.elim
  | _ :: _, _ :: _, _ :: _, [], _, h, _ => h.elim
  | f :: fs, e :: es, b :: fb, g :: fg, [], _, h => by obtain ⟨a, b⟩ := e; exact h.elim
  | (name, bs, safe) :: fs, e :: es, b :: fb, g :: fg, n :: ns, h, hm => by
    obtain ⟨rfl, h2, h3, h4⟩ := h
    obtain ⟨m1, m2, m3⟩ := hm
    obtain ⟨k, hk, hv⟩ := m2.ptr_inv
    obtain ⟨k', hk', us, q1, q2, q3⟩ := hH b _ h2
    obtain rfl : k' = k := Option.some.inj (hk'.symm.trans hk)
    rw [ibs, FilesAt]
    refine ⟨m1, ⟨k', ?_⟩, files_cls hs hH fs es fb fg ns h4 m3⟩
    match us, q2 with
    | [], q2 => exact absurd q2.1 (by simp)
    | [_], q2 => exact absurd q2.1 (by simp)
    | _ :: _ :: _ :: _, q2 => exact absurd q2.1 (by simp)
    | [v, z], q2 =>
      have hz := (q2.2 1 _ z rfl rfl).int_inv
      subst hz
      exact ⟨v, hk, hv, q1, bytes_at hs h3 (q2.2 0 _ v rfl rfl)⟩
theorem FilesS.lens {s : St} {d : Dsk} : ∀ (fs : List (Int × List Int × Int)) (es : List (AV × AV)) (fb : List Nat) (fg : List Tag), FilesS s d fs es fb fg → fb.length = fg.length
  | [], [], [], [], _ => rfl
  | [], [], [], _ :: _, h => h.elim
  | [], [], _ :: _, _, h => h.elim
  | [], _ :: _, _, _, h => h.elim
  | _ :: _, [], _, _, h => h.elim
  | _ :: _, _ :: _, [], _, h => h.elim
  | _ :: _, _ :: _, _ :: _, [], h => h.elim
  | f :: fs, e :: es, b :: fb, g :: fg, h => by
    have := FilesS.lens fs es fb fg h.2.2.2
    simp only [List.length_cons]
    omega
theorem Rel.cls {ρ : Nat → Value} {c : Cx} {s : St} {a : Act} (hR : Rel T ρ c s a) {n b bm : Nat} {d : Dsk} {fb : List Nat} {fg : List Tag} {es : List (AV × AV)} (hx : s.h b = some (.cells d.td [.mp bm, .int .i64 d.room, .int .i64 d.left, .bool d.stop])) (hm : s.h bm = some (.mapo es))
    (hF : FilesS s d d.fs es fb fg) (hnd : nodupN (b :: bm :: fb) = true) (hng : nodupN (famsT fg) = true) (hlt : ∀ x ∈ bm :: fb, x < 1000000000) (hl : fb.length < 300) (hd : 2000000000 ≤ d.nb) (hn : n < 1000) (hs : T.size d.tb = 1) :
    ∃ c', GStep n c c' ∧ Rel T ρ c' (clsS s b bm d fb fg) a := by
  have hlen := FilesS.lens _ _ _ _ hF
  have hb2 := hR.lt hx
  obtain ⟨hbn, hnd'⟩ : b ∉ bm :: fb ∧ nodupN (bm :: fb) = true := by
    rw [nodupN, Bool.and_eq_true, Bool.not_eq_true'] at hnd
    exact ⟨fun h => by rw [blt_iff.2 (idx_of h)] at hnd; exact absurd hnd.1 (by simp), hnd.2⟩
  -- where a hidden number leads
  let hv : Nat → Option Nat := fun j => match j with
    | 0 => c.bk bm
    | j + 1 => ((ibs c fb fg)[j]?).bind id
  have hv0 : hv 0 = c.bk bm := rfl
  have hvk : ∀ j k, hv j = some k → (j % 2 = 1 ∨ j = 0) ∧ (∃ x, (bm :: fb)[(j + 1) / 2]? = some x ∧ c.bk x = some k) ∨ (j % 2 = 0 ∧ 0 < j ∧ ∃ F, fg[(j - 2) / 2]? = some (.own F) ∧ c.fm F = some k) := fun j k h => by
    match j, h with
    | 0, h => exact .inl ⟨.inr rfl, bm, rfl, h⟩
    | j + 1, h =>
      obtain ⟨o, h1, h2⟩ := Option.bind_eq_some_iff.1 (show ((ibs c fb fg)[j]?).bind id = some k from h)
      have h2 : o = some k := h2
      subst h2
      rcases ibs_at c fb fg j k h1 with ⟨a1, x, a2, a3⟩ | ⟨a1, F, a2, a3⟩
      · refine .inl ⟨.inl (by omega), x, ?_, a3⟩
        rw [show (j + 1 + 1) / 2 = j / 2 + 1 by omega, List.getElem?_cons_succ]
        exact a2
      · refine .inr ⟨by omega, by omega, F, ?_, a3⟩
        rw [show (j + 1 - 2) / 2 = j / 2 by omega]
        exact a2
  let c' : Cx := ⟨c.w, c.Z, fun m => if d.nb ≤ m ∧ m < d.nb + 1000 then hv (m - d.nb) else if m ∈ bm :: fb then none else c.bk m, fun F => if F ∈ famsT fg then none else c.fm F⟩
  have hc : ∀ m k, c'.bk m = some k → ((d.nb ≤ m ∧ m < d.nb + 1000) ∧ hv (m - d.nb) = some k) ∨ (¬ (d.nb ≤ m ∧ m < d.nb + 1000) ∧ m ∉ bm :: fb ∧ c.bk m = some k) := fun m k hk => by
    have hk : (if d.nb ≤ m ∧ m < d.nb + 1000 then hv (m - d.nb) else if m ∈ bm :: fb then none else c.bk m) = some k := hk
    split at hk
    · exact .inl ⟨by assumption, hk⟩
    · split at hk
      · cases hk
      · exact .inr ⟨by assumption, by assumption, hk⟩
  have hin : ∀ j, j < 1000 → c'.bk (d.nb + j) = hv j := fun j h => (if_pos ⟨by omega, by omega⟩).trans (by rw [show d.nb + j - d.nb = j by omega])
  have hout : ∀ m, ¬ (d.nb ≤ m ∧ m < d.nb + 1000) → m ∉ bm :: fb → c'.bk m = c.bk m := fun m h1 h2 => (if_neg h1).trans (if_neg h2)
  have hf : ∀ F k, c'.fm F = some k → F ∉ famsT fg ∧ c.fm F = some k := fun F k hk => by
    have hk : (if F ∈ famsT fg then none else c.fm F) = some k := hk
    split at hk
    · cases hk
    · exact ⟨by assumption, hk⟩
  have hwv : ∀ j k, hv j = some k → Wr c k := fun j k h => by
    rcases hvk j k h with ⟨_, x, _, h1⟩ | ⟨_, _, F, _, h1⟩
    · exact .inl ⟨x, h1⟩
    · exact .inr ⟨F, h1⟩
  have hwr : ∀ k, Wr c' k → Wr c k := fun k hk => by
    rcases hk with ⟨m, hm⟩ | ⟨F, hF⟩
    · rcases hc m k hm with ⟨_, h⟩ | ⟨_, _, h⟩
      · exact hwv _ k h
      · exact .inl ⟨_, h⟩
    · exact .inr ⟨F, (hf F k hF).2⟩
  have hzw : ∀ k, Wr c k → k < c.w.heap.size ∧ ¬ c.Z k := fun k hk => by
    rcases hk with ⟨m, hm⟩ | ⟨F, hF⟩
    · exact ⟨hR.ok.blt m k hm, hR.ok.zb m k hm⟩
    · exact ⟨hR.ok.flt F k hF, hR.ok.zf F k hF⟩
  have hok : c'.Ok := by
    refine ⟨hR.ok.zlt, fun m k hk => (hzw k (hwr k (.inl ⟨m, hk⟩))).1, fun F k hF => (hzw k (hwr k (.inr ⟨F, hF⟩))).1, fun m k hk => (hzw k (hwr k (.inl ⟨m, hk⟩))).2, fun F k hF => (hzw k (hwr k (.inr ⟨F, hF⟩))).2, fun m m' k q1 q2 => ?_, fun F F' k q1 q2 => hR.ok.ff F F' k (hf F k q1).2 (hf F' k q2).2, fun m F k hm hF => ?_, hR.ok.gl⟩
    · have key : ∀ m m' k, hv (m - d.nb) = some k → m' ∉ bm :: fb → c.bk m' = some k → False := fun m m' k h1 h2 h3 => by
        rcases hvk _ k h1 with ⟨_, x, a1, a2⟩ | ⟨_, _, F, _, a2⟩
        · have := hR.ok.bb _ _ k a2 h3
          subst this
          exact h2 (List.mem_of_getElem? a1)
        · exact hR.ok.bf _ _ k h3 a2
      rcases hc m k q1 with ⟨e1, r1⟩ | ⟨e1, f1, r1⟩ <;> rcases hc m' k q2 with ⟨e2, r2⟩ | ⟨e2, f2, r2⟩
      · rcases hvk _ k r1 with ⟨p1, x, a1, a2⟩ | ⟨p1, p2, F, a1, a2⟩ <;> rcases hvk _ k r2 with ⟨q1, y, b1, b2⟩ | ⟨q1, q2, G, b1, b2⟩
        · have := hR.ok.bb _ _ k a2 b2
          subst this
          have i1 := nodupN_at hnd' a1
          have i2 := nodupN_at hnd' b1
          omega
        · exact (hR.ok.bf _ _ k a2 b2).elim
        · exact (hR.ok.bf _ _ k b2 a2).elim
        · have := hR.ok.ff _ _ k a2 b2
          subst this
          have := famsT_at hng a1 b1
          omega
      · exact (key m m' k r1 f2 r2).elim
      · exact (key m' m k r2 f1 r1).elim
      · exact hR.ok.bb m m' k r1 r2
    · obtain ⟨h1, h2⟩ := hf F k hF
      rcases hc m k hm with ⟨_, r1⟩ | ⟨_, _, r1⟩
      · rcases hvk _ k r1 with ⟨_, x, a1, a2⟩ | ⟨_, _, G, a1, a2⟩
        · exact hR.ok.bf _ _ k a2 h2
        · have := hR.ok.ff _ _ k a2 h2
          subst this
          exact h1 (famsT_mem.2 ⟨_, a1⟩)
      · exact hR.ok.bf _ _ k r1 h2
  have hS : Stays c c' (fun F => Nat.blt (idx F (famsT fg)) (famsT fg).length = true) (fun m => (Nat.ble 2000000000 m || Nat.blt (idx m (bm :: fb)) (bm :: fb).length) = true) := by
    refine ⟨fun k hk => ⟨hk, rfl⟩, fun m k hk hn => ?_, fun F k hF hn => ⟨?_, rfl⟩⟩
    · rw [hout m (fun h => hn (by rw [Nat.ble_eq_true_of_le (show 2000000000 ≤ m by omega)]; rfl)) fun h => hn (by rw [blt_iff.2 (idx_of h), Bool.or_true])]
      exact hk
    · show (if F ∈ famsT fg then none else c.fm F) = some k
      rw [if_neg fun h => hn (blt_iff.2 (idx_of h))]
      exact hF
  have hφ := fgtA_v (T := T) hS
  obtain ⟨g, hg, us, u1, u2, _⟩ := hR.h b _ hx
  obtain ⟨gm, hgm, ns, clock, m1, m2, m3⟩ := hR.h bm _ hm
  have hbg : c'.bk b = some g := (hout b (by omega) hbn).trans hg
  have hil := ibs_length c fb fg
  have hbox : BoxAt T c' g (.obj d) := by
    refine ⟨hd, some gm :: ibs c fb fg, by simp only [List.length_cons]; omega, fun i k hi => ?_, ?_, ns, clock, m1, m3, files_cls hs hR.h _ _ _ _ _ hF m2⟩
    · have hil' := (List.getElem?_eq_some_iff.1 hi).1
      simp only [List.length_cons] at hil'
      rw [hin i (by omega)]
      cases i with
      | zero => cases hi; exact hgm
      | succ i =>
        show ((ibs c fb fg)[i]?).bind id = some k
        rw [List.getElem?_cons_succ] at hi
        rw [hi]
        rfl
    · match us, u2 with
      | [], u2 => exact absurd u2.1 (by simp)
      | [_], u2 => exact absurd u2.1 (by simp)
      | [_, _], u2 => exact absurd u2.1 (by simp)
      | [_, _, _], u2 => exact absurd u2.1 (by simp)
      | _ :: _ :: _ :: _ :: _ :: _, u2 => exact absurd u2.1 (by simp)
      | [a0, a1, a2, a3], u2 =>
        have e0 := u2.2 0 _ a0 rfl rfl
        have e1 := (u2.2 1 _ a1 rfl rfl).int_inv
        have e2 := (u2.2 2 _ a2 rfl rfl).int_inv
        have e3 := (u2.2 3 _ a3 rfl rfl).bool_inv
        cases e0 with
        | mp _ g' hg' =>
          obtain rfl : g' = gm := Option.some.inj (hg'.symm.trans hgm)
          rw [u1, e1, e2, e3]
  have ht : (clsS s b bm d fb fg).t = (s.mapA (fgtA (fun F => Nat.blt (idx F (famsT fg)) (famsT fg).length) fun n => Nat.ble 2000000000 n || Nat.blt (idx n (bm :: fb)) (bm :: fb).length)).t := by
    unfold clsS
    rw [mapQ_eq]
    cases s; rfl
  have hmh : ∀ m, (clsS s b bm d fb fg).h m = if m = b then some (.obj d) else if m ∈ bm :: fb then none else ((s.mapA (fgtA (fun F => Nat.blt (idx F (famsT fg)) (famsT fg).length) fun n => Nat.ble 2000000000 n || Nat.blt (idx n (bm :: fb)) (bm :: fb).length)).keepObj [d.nb]).h m := fun m => by
    unfold clsS
    rw [mapQ_eq]
    show upd (fun n => bif Nat.blt (idx n (bm :: fb)) (bm :: fb).length then none else ((s.mapA (fgtA (fun F => Nat.blt (idx F (famsT fg)) (famsT fg).length) fun n => Nat.ble 2000000000 n || Nat.blt (idx n (bm :: fb)) (bm :: fb).length)).keepObj [d.nb]).h n) b _ m = _
    by_cases e1 : m = b
    · rw [e1, upd_eq, if_pos rfl]
    · rw [upd_ne _ _ e1, if_neg e1]
      by_cases e2 : m ∈ bm :: fb
      · rw [if_pos e2, blt_iff.2 (idx_of e2), cond_true]
      · rw [if_neg e2]
        cases hq : Nat.blt (idx m (bm :: fb)) (bm :: fb).length with
        | true => exact absurd (idx_mem (blt_iff.1 hq)) e2
        | false => rw [cond_false]
  refine ⟨c', ⟨rfl, hwr, fun k h => h, fun k h => .inl h, fun i hi => hout _ (by omega) fun h => by have := hlt _ h; omega⟩, hR.over rfl hok hφ ht (fun m y hy => ?_) fun m hm => ?_⟩
  · rw [hmh] at hy
    split at hy
    · rename_i e
      subst e
      cases hy
      exact .inl ⟨g, hbg, hbox⟩
    · split at hy
      · cases hy
      · rename_i e
        obtain ⟨h1, h2⟩ := keepObj_h hy
        have hlt2 : m < 2000000000 := by
          rcases Nat.lt_or_ge m 2000000000 with h | h
          · exact h
          · rw [hR.nmap _ m h] at h1; cases h1
        refine .inr ⟨h1, fun k hk => (hout m (by omega) e).trans hk, fun d' hd' hd2 i k hi hk => ?_⟩
        have := h2 d' hd' d.nb (List.mem_singleton.2 rfl)
        exact (hout _ (by omega) fun h => by have := hlt _ h; omega).trans hk
  · rw [hmh, if_neg (by omega)]
    split
    · rfl
    · cases hq : ((s.mapA (fgtA (fun F => Nat.blt (idx F (famsT fg)) (famsT fg).length) fun n => Nat.ble 2000000000 n || Nat.blt (idx n (bm :: fb)) (bm :: fb).length)).keepObj [d.nb]).h m with
      | none => rfl
      | some x => have := (keepObj_h hq).1; rw [hR.nmap _ m hm] at this; cases this
end Go.Proofs.YtbpcofnhndgoeaaDoor.A

/- A contract from a body, with what is opened ahead of it, and shut behind it; loops round by round. -/
namespace Go.Proofs.YtbpcofnhndgoeaaDoor.A
open Go
variable {P : Program} {E : En}
/-- What turns no block: own slices that are written no more, a box of another number, a disk that is opened, or shut. -/
inductive Ghost where
  | frz (F : Nat)
  | move (b b' : Nat)
  | cls (b bm : Nat) (d : Dsk) (fb : List Nat) (fg : List Tag)
  /-- a nil slice is one of no elements, whoever's: in a box, in a place -/
  | emp (b i : Nat) (t : Tag) (e : TypeId)
  | empT (j : Nat) (t : Tag) (e : TypeId)
noncomputable def runG (T : Tab) (n : Nat) (gs : List Ghost) : (St → Prop) → St → Prop :=
  List.rec (motive := fun _ => (St → Prop) → St → Prop) (fun K s => K s) (fun g _ ih K s => Ghost.casesOn g
    (fun F => (s.mapQ (frzFq F)).go (ih K))
    (fun b b' => match s.h b with
      | some x => ifT (Nat.blt b 1000000000 && Nat.ble (1000000000 + n) b' && Nat.blt b' 2000000000) ((moveS s b b' x).go (ih K))
      | none => False)
    (fun b bm d fb fg => s.h b = some (.cells d.td [.mp bm, .int .i64 d.room, .int .i64 d.left, .bool d.stop]) ∧ ∃ es, s.h bm = some (.mapo es) ∧ FilesS s d d.fs es fb fg ∧
      (nodupN (b :: bm :: fb) && nodupN (famsT fg) && all? (fun x => Nat.blt x 1000000000) (bm :: fb) && Nat.blt fb.length 300 && Nat.beq (T.size d.tb) 1) = true ∧ 2000000000 ≤ d.nb ∧ (clsS s b bm d fb fg).go (ih K))
    (fun b i t e => match s.h b with
      | some (.cells e0 cs) => match cs[i]? with
        | some (.sl .nl _ _) => s.boxF b e0 (cs.set i (.sl t e [])) (ih K)
        | _ => False
      | _ => False)
    (fun j t e => match s.t j with
      | .sl .nl _ _ => (s.put (some j) (.sl t e [])).go (ih K)
      | _ => False)) gs
theorem nl_inv {T : Tab} {c : Cx} {e : TypeId} {xs : List AV} {v : Value} (h : V T c (.sl .nl e xs) v) (t : Tag) (e' : TypeId) : V T c (.sl t e' []) v := by
  cases h with
  | nilsl => exact .nilsl _ _
theorem Rel.emp {T : Tab} {ρ : Nat → Value} {c : Cx} {s : St} {a : Act} (h : Rel T ρ c s a) {b i : Nat} {t : Tag} {e e0 e1 : TypeId} {cs xs : List AV} (hb : s.h b = some (.cells e0 cs)) (hi : cs[i]? = some (.sl .nl e1 xs)) : Rel T ρ c (s.box b (.cells e0 (cs.set i (.sl t e [])))) a := by
  refine ⟨h.ok, h.t, fun b' x hx => ?_, h.d, fun b' hb' => ?_⟩
  · have hx : upd s.h b (some (.cells e0 (cs.set i (.sl t e [])))) b' = some x := hx
    unfold upd at hx
    cases hq : Nat.beq b' b with
    | false => rw [hq] at hx; exact h.h b' x hx
    | true =>
      rw [hq] at hx
      cases hx
      obtain rfl := Nat.eq_of_beq_eq_true hq
      obtain ⟨g, h1, us, h2, ⟨h3, h4⟩, h5⟩ := h.h _ _ hb
      refine ⟨g, h1, us, h2, ⟨by rw [List.length_set]; exact h3, fun k y u hy hu => ?_⟩, h5⟩
      rw [List.getElem?_set] at hy
      split at hy
      · rename_i hik
        subst hik
        split at hy
        · cases hy
          exact nl_inv (h4 _ _ _ hi hu) t e
        · cases hy
      · exact h4 k y u hy hu
  · show upd s.h b _ b' = none
    have hne : Nat.beq b' b = false := by
      cases hq : Nat.beq b' b with
      | false => rfl
      | true =>
        obtain rfl := Nat.eq_of_beq_eq_true hq
        rw [h.n _ hb'] at hb
        cases hb
    unfold upd
    rw [hne]
    exact h.n _ hb'
theorem Rel.empT {T : Tab} {ρ : Nat → Value} {c : Cx} {s : St} {a : Act} (h : Rel T ρ c s a) {j : Nat} {t : Tag} {e e1 : TypeId} {xs : List AV} (hj : s.t j = .sl .nl e1 xs) : Rel T ρ c (s.put (some j) (.sl t e [])) a := by
  refine ⟨h.ok, fun k => ?_, h.h, h.d, h.n⟩
  show V T c (upd s.t j (.sl t e []) k) _
  unfold upd
  cases hq : Nat.beq k j with
  | false => exact h.t k
  | true =>
    obtain rfl := Nat.eq_of_beq_eq_true hq
    exact nl_inv (hj ▸ h.t _) t e
theorem runG_sound {T : Tab} {ρ : Nat → Value} {n : Nat} (hn : n < 1000) : ∀ (gs : List Ghost) {K : St → Prop} {c : Cx} {s : St} {a : Act}, Rel T ρ c s a → runG T n gs K s → ∃ c' s', GStep n c c' ∧ Rel T ρ c' s' a ∧ K s'
  | [], K, c, s, a, hR, h => ⟨c, s, .refl n c, hR, h⟩
  | .frz F :: gs, K, c, s, a, hR, h => by
    have h : (s.mapQ (frzFq F)).go (runG T n gs K) := h
    rw [go_iff, mapQ_eq, frzFq_eq] at h
    obtain ⟨h1, h2, _⟩ := hR.frz F
    have hG : GStep n c ⟨c.w, fun g => c.Z g ∨ c.fm F = some g, c.bk, upd c.fm F none⟩ := by
      refine ⟨rfl, fun k hk => (h1.wr k hk).elim id fun hle => ?_, h1.z, fun k hk => hk.imp id fun h => .inr ⟨F, h⟩, fun i _ => rfl⟩
      exfalso
      have hlt : k < c.w.heap.size := by
        rcases hk with ⟨b, hb⟩ | ⟨G, hG⟩
        · exact h2.ok.blt b k hb
        · exact h2.ok.flt G k hG
      omega
    obtain ⟨c', s', h3, h4, h5⟩ := runG_sound hn gs h2 h
    exact ⟨c', s', hG.trans h3, h4, h5⟩
  | .move b b' :: gs, K, c, s, a, hR, h => by
    have h : (match s.h b with
      | some x => ifT (Nat.blt b 1000000000 && Nat.ble (1000000000 + n) b' && Nat.blt b' 2000000000) ((moveS s b b' x).go (runG T n gs K))
      | none => False) := h
    cases hx : s.h b with
    | none => rw [hx] at h; exact h.elim
    | some x =>
      rw [hx] at h
      cases hq : (Nat.blt b 1000000000 && Nat.ble (1000000000 + n) b' && Nat.blt b' 2000000000) with
      | false => simp only [hq] at h; exact h.elim
      | true =>
        simp only [hq] at h
        simp only [Bool.and_eq_true] at hq
        have h : (moveS s b b' x).go (runG T n gs K) := h
        rw [go_iff] at h
        obtain ⟨c1, h1, h2⟩ := hR.move (n := n) hx (blt_iff.1 hq.1.1) (Nat.le_of_ble_eq_true hq.1.2) (blt_iff.1 hq.2)
        obtain ⟨c', s', h3, h4, h5⟩ := runG_sound hn gs h2 h
        exact ⟨c', s', h1.trans h3, h4, h5⟩
  | .cls b bm d fb fg :: gs, K, c, s, a, hR, h => by
    obtain ⟨h1, es, h2, h3, h4, h5, h6⟩ := h
    have h6 : (clsS s b bm d fb fg).go (runG T n gs K) := h6
    rw [go_iff] at h6
    simp only [Bool.and_eq_true] at h4
    obtain ⟨c1, k1, k2⟩ := hR.cls h1 h2 h3 h4.1.1.1.1 h4.1.1.1.2 (fun x hx => blt_iff.1 (all_mem h4.1.1.2 x hx)) (blt_iff.1 h4.1.2) h5 hn (Nat.eq_of_beq_eq_true h4.2)
    obtain ⟨c', s', q3, q4, q5⟩ := runG_sound hn gs k2 h6
    exact ⟨c', s', k1.trans q3, q4, q5⟩
  | .emp b i t e :: gs, K, c, s, a, hR, h => by
    have h : (match s.h b with
      | some (.cells e0 cs) => match cs[i]? with
        | some (.sl .nl _ _) => s.boxF b e0 (cs.set i (.sl t e [])) (runG T n gs K)
        | _ => False
      | _ => False) := h
    split at h
    · rename_i e0 cs hb
      split at h
      · rename_i e1 xs hi
        rw [boxF_iff] at h
        exact runG_sound hn gs (hR.emp hb hi) h
      · exact h.elim
    · exact h.elim
  | .empT j t e :: gs, K, c, s, a, hR, h => by
    have h : (match s.t j with
      | .sl .nl _ _ => (s.put (some j) (.sl t e [])).go (runG T n gs K)
      | _ => False) := h
    split at h
    · rename_i e1 xs hj
      rw [go_iff] at h
      exact runG_sound hn gs (hR.empT hj) h
    · exact h.elim
/-- What has to hold where a function ends. -/
def bodyN (T : Tab) (fn : Func) (n : Nat) (K : AV → List Box → Prop) : Ex → St → Prop
  | .normal, s | .ret, s => ∃ gs : List Ghost, runG T n gs (fun s => ∃ m, Nat.ble n m = true ∧ match retA T fn s, outA s 0 m with
    | some v, some out => force v fun v => K v out
    | _, _ => False) s
  | _, _ => False
theorem fn_okN (hT : TabOk P E.T) (hC : CallOk P E.T E.R) (hJ : JOk P E.T E.J) {f : FuncId} {fn : Func} {code : Code} (hf : P.funcs[f]? = some fn) (hname : (fn.name == "runtime.NumGoroutine") = false) (hb : fn.body = some code) (hk : (okD E.pl fn.ntmps code && Nat.ble fn.ntmps 1000000) = true)
    {S : List AV → List Box → (AV → List Box → Prop) → Prop} (h : ∀ args bs K, S args bs K → (Nat.ble args.length fn.ntmps && Nat.blt bs.length 1000) = true ∧ ∃ gs, runG E.T bs.length gs (fun s => wpA E code (bodyN E.T fn bs.length K) s) (enterA args bs)) : FnOkN P E.T f S := by
  refine ⟨fun args w => ?_, fun args bs K hS c vs hok hown hV hB => ?_⟩
  · have hne : ¬ (fn.name = "runtime.NumGoroutine") := by simpa using hname
    simp [callFunc, hf, hne, hb]
  · obtain ⟨hlen, gs, hwp⟩ := h args bs K hS
    rw [Bool.and_eq_true] at hlen
    have hbl := blt_iff.1 hlen.2
    have hlen := Nat.le_of_ble_eq_true hlen.1
    simp only [Bool.and_eq_true] at hk
    refine calls_of_wp hf hb ?_
    have hsz : (vs.toArray ++ Array.replicate (fn.ntmps - vs.toArray.size) undef).size = fn.ntmps := by
      have := hV.1
      simp
      omega
    have hR : Rel E.T (fun _ => undef) c (enterA args bs) { tmps := vs.toArray ++ Array.replicate (fn.ntmps - vs.toArray.size) undef, defers := [] } := by
      refine ⟨hok, fun j => ?_, fun b x hx => ?_, rfl, enterA_hid args bs⟩
      · simp only [enterA]
        cases ha : args[j]? with
        | none => exact .bad _
        | some x =>
          have hj := (List.getElem?_eq_some_iff.1 ha).1
          have hj' : j < vs.length := by rw [← hV.1]; exact hj
          have : vals (fun _ => undef) { tmps := vs.toArray ++ Array.replicate (fn.ntmps - vs.toArray.size) undef, defers := [] } j = vs[j] := by
            have hm := Nat.le_of_ble_eq_true hk.2
            rw [vals, if_pos (by omega), Array.getD_eq_getD_getElem?, Array.getElem?_append_left (by simpa using hj')]
            simp [hj']
          rw [this]
          exact hV.2 j x _ ha (List.getElem?_eq_getElem hj')
      · simp only [enterA] at hx
        split at hx
        · rename_i hb
          rw [Bool.and_eq_true] at hb
          have hb := Nat.le_of_ble_eq_true hb.1
          obtain ⟨g, h1, h2⟩ := hB _ x hx
          rw [show 1000000000 + (b - 1000000000) = b by omega] at h1
          exact ⟨g, h1, h2⟩
        · cases hx
    obtain ⟨c1, s1, g1, hR1, hwp1⟩ := runG_sound hbl gs hR hwp
    have hw1 : c1.w = c.w := g1.w
    rw [← hw1]
    refine Code.wp_mono (fun e a w q => ?_) (wpA_sound hT hC hJ (Nat.le_of_ble_eq_true hk.2) code _ c1 _ _ hk.1 (.refl c1) hR1 hsz hwp1)
    have fin : ∀ (c' : Cx) (s' : St), c'.w = w → Step c1 c' → Rel E.T (fun _ => undef) c' s' a → bodyN E.T fn bs.length K .ret s' → a.defers = [] ∧ ∃ v, (results fn a.tmps).run P w = .ok v w ∧ (∃ v' c'' res out, Ending.returned v = .returned v' ∧ c''.w = w ∧ c''.Ok ∧ StepN c c'' ∧ V E.T c'' res v' ∧ BoxesAt E.T c'' out ∧ bs.length ≤ out.length ∧ (∀ i, i < bs.length → c''.bk (1000000000 + i) = c.bk (1000000000 + i)) ∧ K res out) := by
      intro c' s' hw h2 h3 h5
      subst hw
      obtain ⟨gs', h5⟩ := h5
      obtain ⟨c2, s2, g2, hR2, m, hm, h6⟩ := runG_sound hbl gs' h3 h5
      have hw2 : c2.w = c'.w := g2.w
      split at h6
      · rename_i v out hv ho
        rw [force_iff] at h6
        obtain ⟨u, h7, h8⟩ := ret_sound hT hR2 hv
        have hol : out.length = m := by
          have : ∀ (m i : Nat) (l : List Box), outA s2 i m = some l → l.length = m := by
            intro m
            induction m with
            | zero => intro i l h; cases h; rfl
            | succ m ih =>
              intro i l h
              simp only [outA] at h
              split at h
              · rename_i y l' hy hl
                cases h
                rw [List.length_cons, ih _ _ hl]
              · cases h
          exact this _ _ _ ho
        refine ⟨h3.d, u, by rw [← hw2]; exact h7, u, c2, v, out, rfl, hw2, hR2.ok, (g1.toN.trans h2.toN).trans g2.toN, h8, fun i x hx => ?_, by rw [hol]; exact Nat.le_of_ble_eq_true hm, fun i hi => ?_, h6⟩
        · have := out_sound hR2 _ _ _ ho i x hx
          rwa [Nat.zero_add] at this
        · rw [g2.bk i hi, h2.bk _ (by omega) (by omega), g1.bk i hi]
      · exact h6.elim
    cases e with
    | normal => obtain ⟨c', s', h1, h2, h3, h4, h5⟩ := q; exact fin c' s' h1 h2 h3 h5
    | ret => obtain ⟨c', s', h1, h2, h3, h4, h5⟩ := q; exact fin c' s' h1 h2 h3 h5
    | exit i => obtain ⟨c', s', h1, h2, h3, h4, h5⟩ := q; exact h5.elim
    | _ => exact q.elim
/-- So many rounds of a loop, or fewer. -/
def roundsR (rb : (Ex → St → Prop) → St → Prop) (Q : Ex → St → Prop) : Nat → St → Prop
  | 0, _ => False
  | n + 1, s => roundsR rb Q n s ∨ rb (fun e s' => match e with
      | .normal => roundsR rb Q n s'
      | e => Q e s') s
theorem roundsR_succ {rb : (Ex → St → Prop) → St → Prop} {Q : Ex → St → Prop} {s : St} {n : Nat} (h : rb (fun e s' => match e with
      | .normal => roundsR rb Q n s'
      | e => Q e s') s) : roundsR rb Q (n + 1) s := .inr h
def exactly (rb : (Ex → St → Prop) → St → Prop) (Q : Ex → St → Prop) : Nat → St → Prop
  | 0, _ => False
  | n + 1, s => rb (fun e s' => match e with
      | .normal => roundsR rb Q n s'
      | e => Q e s') s
theorem rounds_iff {rb : (Ex → St → Prop) → St → Prop} {Q : Ex → St → Prop} : ∀ (n : Nat) (s : St), roundsR rb Q n s ↔ ∃ m, m < n + 1 ∧ exactly rb Q m s
  | 0, s => ⟨fun h => h.elim, fun ⟨m, h1, h2⟩ => by obtain rfl : m = 0 := by omega
                                                    exact h2.elim⟩
  | n + 1, s => by
    show roundsR rb Q n s ∨ exactly rb Q (n + 1) s ↔ _
    rw [rounds_iff n s]
    constructor
    · rintro (⟨m, h1, h2⟩ | h)
      · exact ⟨m, by omega, h2⟩
      · exact ⟨n + 1, by omega, h⟩
    · rintro ⟨m, h1, h2⟩
      by_cases e : m = n + 1
      · subst e; exact .inr h2
      · exact .inl ⟨m, by omega, h2⟩
theorem loopR {rb : (Ex → St → Prop) → St → Prop} {Q : Ex → St → Prop} {s : St} (n : Nat) (h : roundsR rb Q n s) : ∃ I : Nat → St → Prop, (∃ n, I n s) ∧ ∀ n s, I n s → rb (fun e s' => match e with
      | .normal => ∃ m, m < n ∧ I m s'
      | e => Q e s') s := by
  obtain ⟨m, _, hm⟩ := (rounds_iff n s).1 h
  refine ⟨exactly rb Q, ⟨m, hm⟩, fun n s hr => ?_⟩
  cases n with
  | zero => exact hr.elim
  | succ n =>
    refine Eq.mp (congrArg (fun q => rb q s) ?_) hr
    funext e s'
    cases e with
    | normal => exact propext (rounds_iff n s')
    | _ => rfl
/-- A result's nil slices, one of several results too, as empty ones, whoever's. -/
def NilW (v v' : AV) : Prop := v = v' ∨ ∃ e t e', v = .sl .nl e [] ∧ v' = .sl t e' []
def NilWL : List AV → List AV → Prop
  | [], [] => True
  | v :: vs, v' :: vs' => NilW v v' ∧ NilWL vs vs'
  | _, _ => False
def NilT (v v' : AV) : Prop := NilW v v' ∨ ∃ cs cs', v = .tup cs ∧ v' = .tup cs' ∧ NilWL cs cs'
theorem NilW.v {T : Tab} {c : Cx} {x x' : AV} {v : Value} (h : NilW x x') (hv : V T c x v) : V T c x' v := by
  rcases h with rfl | ⟨e, t, e', rfl, rfl⟩
  · exact hv
  · exact nl_inv hv t e'
theorem NilWL.vl {T : Tab} {c : Cx} : ∀ {l l' : List AV} {us : List Value}, NilWL l l' → VL T c l us → VL T c l' us
  | [], [], _, _, h => h
  | [], _ :: _, _, h, _ => h.elim
  | _ :: _, [], _, h, _ => h.elim
  | v :: vs, v' :: vs', [], _, hv => absurd hv.1 (by simp)
  | v :: vs, v' :: vs', u :: us, h, hv => VL.cons (h.1.v (hv.2 0 v u rfl rfl)) (NilWL.vl h.2 ⟨by have := hv.1; simpa using this, fun i x u' hx hu => hv.2 (i + 1) x u' (by simpa using hx) (by simpa using hu)⟩)
theorem NilT.v {T : Tab} {c : Cx} {x x' : AV} {v : Value} (h : NilT x x') (hv : V T c x v) : V T c x' v := by
  rcases h with h | ⟨cs, cs', rfl, rfl, h⟩
  · exact h.v hv
  · cases hv with
    | tup _ us hl hh =>
      have := h.vl (us := us) ⟨hl, hh⟩
      exact .tup _ us this.1 this.2
theorem FnOk.nilT {T : Tab} {f : FuncId} {S : List AV → List Box → (AV → List Box → Prop) → Prop} (h : FnOk P T f S) : FnOk P T f (fun args bs K => S args bs (fun res out => ∃ res', NilT res res' ∧ K res' out)) := by
  refine ⟨h.1, fun args bs K hS c vs hok hfm hV hB => Calls.mono (h.2 args bs _ hS c vs hok hfm hV hB) ?_⟩
  rintro e w' ⟨v, c', res, out, rfl, rfl, ok', hst, hres, hout, res', hN, hK⟩
  exact ⟨v, c', res', out, rfl, rfl, ok', hst, hN.v hres, hout, hK⟩
theorem FnOkN.nilT {T : Tab} {f : FuncId} {S : List AV → List Box → (AV → List Box → Prop) → Prop} (h : FnOkN P T f S) : FnOkN P T f (fun args bs K => S args bs (fun res out => ∃ res', NilT res res' ∧ K res' out)) := by
  refine ⟨h.1, fun args bs K hS c vs hok hown hV hB => Calls.mono (h.2 args bs _ hS c vs hok hown hV hB) ?_⟩
  rintro e w' ⟨v, c', res, out, rfl, hw, ok', hst, hres, hout, hl, hbk, res', hN, hK⟩
  exact ⟨v, c', res', out, rfl, hw, ok', hst, hN.v hres, hout, hl, hbk, hK⟩
end Go.Proofs.YtbpcofnhndgoeaaDoor.A

/- A call that turns, in place, the slice that it is handed. -/
namespace Go.Proofs.YtbpcofnhndgoeaaDoor.A
open Go
variable {P : Program} {E : En}
/-- A contract: what the call hands back, and what its arguments say then. -/
def FnOkI (P : Program) (T : Tab) (f : FuncId) (S : List AV → (AV → List AV → Prop) → Prop) : Prop := Enters P f ∧ ∀ (args : List AV) (K : AV → List AV → Prop), S args K → ∀ (c : Cx) (vs : List Value), c.Ok → (∀ b, c.bk b = none) → VL T c args vs →
  Calls P f vs.toArray c.w fun e w' => ∃ v c' res args', e = .returned v ∧ c'.w = w' ∧ c'.Ok ∧ Step c c' ∧ V T c' res v ∧ VL T c' args' vs ∧ K res args'
theorem FnOkI.mono {T : Tab} {f : FuncId} {S S' : List AV → (AV → List AV → Prop) → Prop} (h : FnOkI P T f S) (hm : ∀ args K, S' args K → S args K) : FnOkI P T f S' := ⟨h.1, fun args K hS => h.2 args K (hm args K hS)⟩
def enterI (args : List AV) : St := ⟨fun j => bif Nat.blt j 1000000 then argAt args j else argAt args (j - 1000000), fun _ => none⟩
def argsI (s : St) (i : Nat) : Nat → List AV
  | 0 => []
  | n + 1 => s.t (1000000 + i) :: argsI s (i + 1) n
def bodyI (T : Tab) (fn : Func) (n : Nat) (K : AV → List AV → Prop) : Ex → St → Prop
  | .normal, s | .ret, s => match retA T fn s with
    | some v => force v fun v => K v (argsI s 0 n)
    | none => False
  | _, _ => False
theorem argsI_len (s : St) : ∀ (n i : Nat), (argsI s i n).length = n
  | 0, _ => rfl
  | n + 1, i => by rw [argsI, List.length_cons, argsI_len s n]
theorem argsI_at (s : St) : ∀ (n i j : Nat) (x : AV), (argsI s i n)[j]? = some x → x = s.t (1000000 + i + j)
  | 0, _, j, x, h => by simp [argsI] at h
  | n + 1, i, 0, x, h => by cases h; rfl
  | n + 1, i, j + 1, x, h => by
    have := argsI_at s n (i + 1) j x (by simpa [argsI] using h)
    rwa [show 1000000 + (i + 1) + j = 1000000 + i + (j + 1) by omega] at this
theorem fn_okI (hT : TabOk P E.T) (hC : CallOk P E.T E.R) (hJ : JOk P E.T E.J) {f : FuncId} {fn : Func} {code : Code} (hf : P.funcs[f]? = some fn) (hname : (fn.name == "runtime.NumGoroutine") = false) (hb : fn.body = some code) (hk : (okD E.pl fn.ntmps code && Nat.ble fn.ntmps 1000000) = true)
    {S : List AV → (AV → List AV → Prop) → Prop} (h : ∀ args K, S args K → Nat.ble args.length fn.ntmps = true ∧ wpA E code (bodyI E.T fn args.length K) (enterI args)) : FnOkI P E.T f S := by
  refine ⟨fun args w => ?_, fun args K hS c vs hok hbk hV => ?_⟩
  · have hne : ¬ (fn.name = "runtime.NumGoroutine") := by simpa using hname
    simp [callFunc, hf, hne, hb]
  · obtain ⟨hlen, hwp⟩ := h args K hS
    have hlen := Nat.le_of_ble_eq_true hlen
    simp only [Bool.and_eq_true] at hk
    refine calls_of_wp hf hb ?_
    have hm := Nat.le_of_ble_eq_true hk.2
    have hsz : (vs.toArray ++ Array.replicate (fn.ntmps - vs.toArray.size) undef).size = fn.ntmps := by
      have := hV.1
      simp
      omega
    have hat : ∀ j, V E.T c (argAt args j) (vs.getD j undef) := fun j => by
      unfold argAt
      cases ha : args[j]? with
      | none => exact .bad _
      | some x =>
        have hj := (List.getElem?_eq_some_iff.1 ha).1
        have hj' : j < vs.length := by rw [← hV.1]; exact hj
        rw [List.getD_eq_getElem?_getD, List.getElem?_eq_getElem hj']
        exact hV.2 j x _ ha (List.getElem?_eq_getElem hj')
    have hR : Rel E.T (fun j => vs.getD j undef) c (enterI args) { tmps := vs.toArray ++ Array.replicate (fn.ntmps - vs.toArray.size) undef, defers := [] } := by
      refine ⟨hok, fun j => ?_, fun b x hx => (by cases hx), rfl, fun _ _ => rfl⟩
      show V E.T c (bif Nat.blt j 1000000 then argAt args j else argAt args (j - 1000000)) _
      cases hq : Nat.blt j 1000000 with
      | true =>
        have hlt := blt_iff.1 hq
        rw [cond_true, vals, if_pos hlt]
        unfold argAt
        cases ha : args[j]? with
        | none => exact .bad _
        | some x =>
          have hj := (List.getElem?_eq_some_iff.1 ha).1
          have hj' : j < vs.length := by rw [← hV.1]; exact hj
          rw [Array.getD_eq_getD_getElem?, Array.getElem?_append_left (by simpa using hj')]
          simp only [List.getElem?_toArray, List.getElem?_eq_getElem hj', Option.getD_some]
          exact hV.2 j x _ ha (List.getElem?_eq_getElem hj')
      | false =>
        have hge : ¬ j < 1000000 := fun h => by rw [blt_iff.2 h] at hq; cases hq
        rw [cond_false, vals, if_neg hge]
        exact hat _
    refine Code.wp_mono (fun e a w q => ?_) (wpA_sound hT hC hJ hm code _ c _ _ hk.1 (.refl c) hR hsz hwp)
    have fin : ∀ (c' : Cx) (s' : St), c'.w = w → Step c c' → Rel E.T (fun j => vs.getD j undef) c' s' a → bodyI E.T fn args.length K .ret s' → a.defers = [] ∧ ∃ v, (results fn a.tmps).run P w = .ok v w ∧ (∃ v' c'' res args', Ending.returned v = .returned v' ∧ c''.w = w ∧ c''.Ok ∧ Step c c'' ∧ V E.T c'' res v' ∧ VL E.T c'' args' vs ∧ K res args') := by
      intro c' s' hw h2 h3 h5
      subst hw
      simp only [bodyI] at h5
      split at h5
      · rename_i v hv
        rw [force_iff] at h5
        obtain ⟨u, h6, h7⟩ := ret_sound hT h3 hv
        refine ⟨h3.d, u, h6, u, c', v, _, rfl, rfl, h3.ok, h2, h7, ⟨by rw [argsI_len]; exact hV.1, fun i x u hx hu => ?_⟩, h5⟩
        rw [argsI_at _ _ _ _ _ hx]
        have := h3.t (1000000 + 0 + i)
        rw [vals, if_neg (by omega)] at this
        rw [show 1000000 + 0 + i - 1000000 = i by omega, List.getD_eq_getElem?_getD, hu] at this
        exact this
      · exact h5.elim
    cases e with
    | normal => obtain ⟨c', s', h1, h2, h3, h4, h5⟩ := q; exact fin c' s' h1 h2 h3 h5
    | ret => obtain ⟨c', s', h1, h2, h3, h4, h5⟩ := q; exact fin c' s' h1 h2 h3 h5
    | exit i => obtain ⟨c', s', h1, h2, h3, h4, h5⟩ := q; exact h5.elim
    | _ => exact q.elim
/-- F's slice says something else. -/
noncomputable def setFq (F : Nat) (e : TypeId) (ys : List AV) (n : Nat) (v : AV) : AV := caseA v
  (fun g e' xs => Tag.casesOn g (.sl .nl e' xs) (.sl .fz e' xs) (fun G => bif Nat.beq G F then (bif Nat.beq e' e && Nat.beq xs.length n then .sl (.own F) e ys else .bad) else .sl (.own G) e' xs))
  (fun g e' i o cs => Tag.casesOn g (.pe .nl e' i o cs) (.pe .fz e' i o cs) (fun G => bif Nat.beq G F then .bad else .pe (.own G) e' i o cs)) .ptr .mp
/-- A call that turns its first argument in place; the others are numbers. -/
noncomputable def inpJ (S : List AV → (AV → List AV → Prop) → Prop) : StSpec := fun args s K =>
  (∃ F e x xs rest, args = .sl (.own F) e (x :: xs) :: rest ∧ plainL rest ∧ S (.sl (.own 0) e (x :: xs) :: rest) (fun res args' => ∃ G ys rest', args' = .sl (.own G) e ys :: rest' ∧ ys.length = (x :: xs).length ∧ res = .tup [] ∧ K (.tup []) (s.mapQ (setFq F e ys (x :: xs).length)))) ∨
  ∃ e rest, args = .sl .nl e [] :: rest ∧ plainL rest ∧ S (.sl .nl e [] :: rest) (fun res _ => res = .tup [] ∧ K (.tup []) s)
theorem inp_ok {T : Tab} {f : FuncId} {S : List AV → (AV → List AV → Prop) → Prop} (h : FnOkI P T f S) (hsz : ∀ e F x xs rest K, S (.sl (.own F) e (x :: xs) :: rest) K → 1 ≤ T.size e) : SOk P T f (inpJ S) := by
  refine ⟨h.1, fun args s K hS ρ c a vs hR hV => ?_⟩
  rcases hS with ⟨F, e, x, xs, rest, rfl, hp, hS⟩ | ⟨e, rest, rfl, hp, hS⟩
  · match vs, hV with
    | [], hV => exact absurd hV.1 (by simp)
    | v0 :: vs, hV =>
      have hv0 := hV.2 0 _ v0 rfl rfl
      have hvr : VL T c rest vs := ⟨by simpa using hV.1, fun i x' u' hx hu => hV.2 (i + 1) x' u' (by simpa using hx) (by simpa using hu)⟩
      have h1 := hsz _ _ _ _ _ _ hS
      cases hv0 with
      | slo _ _ _ _ g us hF hv ho o1 o2 o3 o4 =>
        let c0 : Cx := ⟨c.w, c.Z, fun _ => none, fun G => if G = 0 then some g else none⟩
        have hc0 : ∀ G k, c0.fm G = some k → G = 0 ∧ k = g := fun G k hk => by
          have hk : (if G = 0 then some g else none) = some k := hk
          split at hk
          · exact ⟨by assumption, (Option.some.inj hk).symm⟩
          · cases hk
        have ok0 : c0.Ok := ⟨hR.ok.zlt, fun _ _ h => (by cases h), fun G k hk => by rw [(hc0 G k hk).2]; exact hR.ok.flt F g hF, fun _ _ h => (by cases h), fun G k hk hz => by rw [(hc0 G k hk).2] at hz; exact hR.ok.zf F g hF hz, fun _ _ _ h => (by cases h), fun G G' k q1 q2 => (hc0 G k q1).1.trans (hc0 G' k q2).1.symm, fun _ _ _ h => (by cases h), hR.ok.gl⟩
        have hV0 : V T c0 (.sl (.own 0) e (x :: xs)) v0 := .slo 0 e _ v0 g us rfl hv ho o1 o2 o3 fun i x j y u q1 q2 q3 => (o4 i x j y u q1 q2 q3).flat_move (c := c) (c' := c0) (fun k hk => ⟨hk, rfl⟩) (o3 i x q1 j y q2)
        refine Calls.mono (h.2 _ _ hS c0 (v0 :: vs) ok0 (fun _ => rfl) (VL.cons hV0 (hp.vl hvr))) ?_
        rintro e' w' ⟨v, c', res, args', rfl, rfl, ok', hSt, hres, hargs, G, ys, rest', rfl, hyl, rfl, hK⟩
        rw [mapQ_eq] at hK
        have hy := hargs.2 0 _ v0 rfl rfl
        have hw0 : ∀ k, Wr c0 k → k = g := fun k hk => by
          rcases hk with ⟨b, hb⟩ | ⟨G, hG⟩
          · cases hb
          · exact (hc0 G k hG).2
        have hold : ∀ k, k < c.w.heap.size → k ≠ g → c'.w.heap[k]? = c.w.heap[k]? := fun k hk hne => hSt.blk k hk fun hw => hne (hw0 k hw)
        have hsize : c.w.heap.size ≤ c'.w.heap.size := hSt.size
        rcases ho.2 with ⟨hv0n, h0⟩ | ⟨g1, cap, cur, hveq, _, hblk, hc1, hm1, hcs1, hus1⟩
        · simp at h0
        obtain rfl : g1 = g := by rw [hveq] at hv; simpa [Value.ownBlock] using hv
        have hyl' : ys.length = xs.length + 1 := by simpa using hyl
        -- what lies there now
        obtain ⟨us', hG', ho', p1, p2, p3, p4⟩ : ∃ us', c'.fm G = some g1 ∧ c'.w.ownsRow 0 e (T.size e) v0 ys.length us' ∧ (∀ u ∈ us', u.oneCell' = true) ∧ (∀ (i : Nat) (x : AV), ys[i]? = some x → x.cells.length = T.size e) ∧ (∀ (i : Nat) (x : AV), ys[i]? = some x → ∀ (j : Nat) (y : AV), x.cells[j]? = some y → y.flat = true) ∧
            (∀ (i : Nat) (x : AV) (j : Nat) (y : AV) (u : Value), ys[i]? = some x → x.cells[j]? = some y → us'[i * T.size e + j]? = some u → V T c' y u) := by
          cases hy with
          | nilsl => simp at hyl
          | slo _ _ _ _ g2 us' hF' hv' ho' q1 q2 q3 q4 =>
            obtain rfl : g2 = g1 := by rw [hv] at hv'; exact (Option.some.inj hv').symm
            exact ⟨us', hF', ho', q1, q2, q3, q4⟩
        let cf : Cx := ⟨c'.w, c'.Z, c.bk, c.fm⟩
        have hzk : ∀ k, c'.Z k → c.Z k ∨ c.w.heap.size ≤ k := fun k hk => by
          rcases hSt.z' k hk with h | h | h
          · exact .inl h
          · have := hw0 k h; subst this; exact absurd hk (ok'.zf G k hG')
          · exact .inr h
        have hZ1 : ∀ k, c.Z k → cf.Z k ∧ cf.w.heap[k]? = c.w.heap[k]? := fun k hk => ⟨hSt.z k hk, hold k (hR.ok.zlt k hk) fun e => hR.ok.zf F g1 hF (e ▸ hk)⟩
        have hS1 : Stays c cf (fun G => G = F) (fun _ => False) := ⟨hZ1, fun n k hk _ => hk, fun G k hG hn => ⟨hG, hold k (hR.ok.flt G k hG) fun e => hn (hR.ok.ff G F g1 (e ▸ hG) hF)⟩⟩
        have okf : cf.Ok := by
          refine ⟨ok'.zlt, fun n k hk => Nat.lt_of_lt_of_le (hR.ok.blt n k hk) hsize, fun G k hk => Nat.lt_of_lt_of_le (hR.ok.flt G k hk) hsize, fun n k hk hz => ?_, fun G k hG hz => ?_, hR.ok.bb, hR.ok.ff, hR.ok.bf, hR.ok.gl.move hZ1⟩
          · rcases hzk k hz with h | h
            · exact hR.ok.zb n k hk h
            · have := hR.ok.blt n k hk; omega
          · rcases hzk k hz with h | h
            · exact hR.ok.zf G k hG h
            · have := hR.ok.flt G k hG; omega
        have hnew : V T cf (.sl (.own F) e ys) v0 := .slo F e ys v0 g1 us' hF hv ho' p1 p2 p3 fun i x j y u q1 q2 q3 => (p4 i x j y u q1 q2 q3).flat_move (c := c') (c' := cf) (fun k hk => ⟨hk, rfl⟩) (p3 i x q1 j y q2)
        have hφ : ∀ z v, V T c z v → z.leaf = true → V T cf (setFq F e ys (x :: xs).length z) v := by
          intro x2 v2 hx2 hl
          have same : (∀ G ∈ x2.fams, ¬ G = F) → V T cf x2 v2 := fun hp => hx2.leaf_move hS1 hl hp (fun _ _ => not_false)
          cases x2 <;> first | (simp [AV.leaf] at hl; done) | exact same (by simp [AV.fams]) | skip
          case sl t e2 xs2 =>
            cases t <;> first | exact same (by simp [AV.fams]) | skip
            case own G2 =>
              show V T cf (bif Nat.beq G2 F then (bif Nat.beq e2 e && Nat.beq xs2.length (x :: xs).length then .sl (.own F) e ys else .bad) else .sl (.own G2) e2 xs2) v2
              cases hq : Nat.beq G2 F with
              | false => exact same (by simp [AV.fams]; exact beq_false hq)
              | true =>
                cases hq2 : (Nat.beq e2 e && Nat.beq xs2.length (x :: xs).length) with
                | false => exact .bad _
                | true =>
                  rw [Bool.and_eq_true] at hq2
                  have e1 := Nat.eq_of_beq_eq_true hq
                  have e3 := Nat.eq_of_beq_eq_true hq2.1
                  have e4 := (Nat.eq_of_beq_eq_true hq2.2).trans hyl.symm
                  subst e1 e3
                  show V T cf (.sl (.own G2) e2 ys) v2
                  have : v2 = v0 := by
                    cases hx2 with
                    | nilsl => have e5 : 0 = ys.length := e4; omega
                    | slo _ _ _ _ g2 us2 hF2 hv2 ho2 =>
                      obtain rfl : g2 = g1 := Option.some.inj (hF2.symm.trans hF)
                      rcases ho2.2 with ⟨_, h0⟩ | ⟨g3, cap2, cur2, hveq2, _, hblk2, _, _, hcs2, _⟩
                      · omega
                      · obtain rfl : g3 = g2 := by rw [hveq2] at hv2; simpa [Value.ownBlock] using hv2
                        have hcur : cur2 = cur := by rw [hblk] at hblk2; simpa using hblk2.symm
                        subst hcur
                        have : cap2 = cap := Nat.eq_of_mul_eq_mul_right (show 0 < T.size e2 by omega) (hcs2.symm.trans hcs1)
                        rw [hveq2, hveq, this, e4, hyl]
                  rw [this]
                  exact hnew
          case pe t e2 i o cs =>
            cases t <;> first | exact same (by simp [AV.fams]) | skip
            case own G2 =>
              show V T cf (bif Nat.beq G2 F then .bad else .pe (.own G2) e2 i o cs) v2
              cases hq : Nat.beq G2 F with
              | true => exact .bad _
              | false => exact same (by simp [AV.fams]; exact beq_false hq)
        have hstep : Step c cf := by
          refine ⟨hsize, hSt.os, hSt.tape, hSt.output, fun k hk hw => hold k hk fun e => hw (.inr ⟨F, e ▸ hF⟩), fun k hk => .inl hk, fun k hk => hSt.z k hk, fun k hk => (hzk k hk).imp id .inr, fun _ _ _ => rfl⟩
        obtain ⟨m1, m2⟩ := hR.map (c' := cf) hφ (fun _ => False) (fun n k hk _ => ⟨hk, hold k (hR.ok.blt n k hk) fun e => hR.ok.bf n F g1 (e ▸ hk) hF⟩)
        refine ⟨v, cf, _, _, rfl, rfl, hstep, ⟨okf, m1, fun n x hx => m2 n x hx not_false, hR.d, hR.nmap _⟩, ?_, hK⟩
        cases hres with
        | tup _ us2 hl _ =>
          obtain rfl : us2 = [] := List.eq_nil_of_length_eq_zero (by simpa using hl.symm)
          exact .tup [] [] rfl (fun i x u hx => by simp at hx)
  · match vs, hV with
    | [], hV => exact absurd hV.1 (by simp)
    | v0 :: vs, hV =>
      have hvr : VL T c rest vs := ⟨by simpa using hV.1, fun i x' u' hx hu => hV.2 (i + 1) x' u' (by simpa using hx) (by simpa using hu)⟩
      have hv0 := hV.2 0 _ v0 rfl rfl
      let c0 : Cx := ⟨c.w, c.Z, fun _ => none, fun _ => none⟩
      have ok0 : c0.Ok := ⟨hR.ok.zlt, fun _ _ h => (by cases h), fun _ _ h => (by cases h), fun _ _ h => (by cases h), fun _ _ h => (by cases h), fun _ _ _ h => (by cases h), fun _ _ _ h => (by cases h), fun _ _ _ h => (by cases h), hR.ok.gl⟩
      have hV0 : V T c0 (.sl .nl e []) v0 := by cases hv0; exact .nilsl _ _
      refine Calls.mono (h.2 _ _ hS c0 (v0 :: vs) ok0 (fun _ => rfl) (VL.cons hV0 (hp.vl hvr))) ?_
      rintro e' w' ⟨v, c', res, args', rfl, rfl, ok', hSt, hres, -, rfl, hK⟩
      have hw0 : ∀ k, ¬ Wr c0 k := fun k hk => by rcases hk with ⟨b, hb⟩ | ⟨G, hG⟩ <;> contradiction
      have hold : ∀ k, k < c.w.heap.size → c'.w.heap[k]? = c.w.heap[k]? := fun k hk => hSt.blk k hk (hw0 k)
      have hsize : c.w.heap.size ≤ c'.w.heap.size := hSt.size
      let cf : Cx := ⟨c'.w, c'.Z, c.bk, c.fm⟩
      have hzk : ∀ k, c'.Z k → c.Z k ∨ c.w.heap.size ≤ k := fun k hk => (hSt.z' k hk).imp id fun h => h.elim (fun h => absurd h (hw0 k)) id
      have hS1 : Stays c cf (fun _ => False) (fun _ => False) := ⟨fun k hk => ⟨hSt.z k hk, hold k (hR.ok.zlt k hk)⟩, fun n k hk _ => hk, fun G k hG _ => ⟨hG, hold k (hR.ok.flt G k hG)⟩⟩
      have okf : cf.Ok := by
        refine ⟨ok'.zlt, fun n k hk => Nat.lt_of_lt_of_le (hR.ok.blt n k hk) hsize, fun G k hk => Nat.lt_of_lt_of_le (hR.ok.flt G k hk) hsize, fun n k hk hz => ?_, fun G k hG hz => ?_, hR.ok.bb, hR.ok.ff, hR.ok.bf, hR.ok.gl.move hS1.z⟩
        · rcases hzk k hz with h | h
          · exact hR.ok.zb n k hk h
          · have := hR.ok.blt n k hk; omega
        · rcases hzk k hz with h | h
          · exact hR.ok.zf G k hG h
          · have := hR.ok.flt G k hG; omega
      have hstep : Step c cf := ⟨hsize, hSt.os, hSt.tape, hSt.output, fun k hk _ => hold k hk, fun k hk => .inl hk, fun k hk => hSt.z k hk, fun k hk => (hzk k hk).imp id .inr, fun _ _ _ => rfl⟩
      refine ⟨v, cf, s, _, rfl, rfl, hstep, ⟨okf, fun j => (hR.t j).move hS1, fun n x hx => ?_, hR.d, hR.n⟩, ?_, hK⟩
      · obtain ⟨g, h3, h4⟩ := hR.h n x hx
        exact ⟨g, h3, h4.moved hS1 (hold g (hR.ok.blt n g h3)) fun m k _ hk => ⟨hk, hold k (hR.ok.blt m k hk)⟩⟩
      · cases hres with
        | tup _ us2 hl _ =>
          obtain rfl : us2 = [] := List.eq_nil_of_length_eq_zero (by simpa using hl.symm)
          exact .tup [] [] rfl (fun i x u hx => by simp at hx)
end Go.Proofs.YtbpcofnhndgoeaaDoor.A

/- Slices that came in, whatever their elements. -/
namespace Go.Proofs.YtbpcofnhndgoeaaDoor.A
open Go
variable {P : Program}
theorem slice_gen {T : Tab} (hT : TabOk P T) {H : Type} {enc : TypeId × Value → H} {W : World} {t e : TypeId} {fuel : Nat} {v : Value} {x : DataW H × List MemPlace} {Q : AV → Prop} (hd : T.desc t = .slice e) (hs1 : 1 ≤ T.size e)
    (hel : ∀ (m : Nat) (cs : List Value) (y : DataW H × List MemPlace), DataW.trod enc P W 0 (fun _ => true) true m e cs = some y → cs.length = T.size e → ∃ r : AV, Q r ∧ VL T (cx0 W) r.cells cs ∧ (∀ u ∈ cs, u.oneCell' = true) ∧ ∀ a ∈ r.cells, a.flat = true)
    (hf : DataW.trod enc P W 0 (fun _ => true) true fuel t [v] = some x) : ∃ rows : List AV, (∀ r ∈ rows, Q r) ∧ V T (cx0 W) (.sl .fz e rows) v ∧ ((∀ m ∈ x.1.weights P t, m ≤ reachBytes) → rows.length * P.bytesOf e ≤ reachBytes) ∧ (rows.length = 0 ∨ ∃ elems rest, x.1 = .slice elems rest ∧ elems.length = rows.length) := by
  have hu := (hT.slice t e hd).1
  have hne := (hT.slice t e hd).2
  have hce : P.cellsOf e = T.size e := cells_size hT hne
  rcases DataW.trod_slice hu hf with ⟨h0, _⟩ | ⟨a', len', cap', elems, rest, m, _, h0, hx, _, hl, hm, hlen, hel', hrest, _⟩
  · obtain rfl : v = .slice none 0 0 := by simpa using h0
    exact ⟨[], fun r h => by simp at h, .nilsl _ _, fun _ => by simp, .inl rfl⟩
  · obtain rfl : v = .slice (some a') len' cap' := by simpa using h0
    rcases Nat.eq_zero_or_pos cap' with hc0 | hcp
    · subst hc0
      obtain rfl : len' = 0 := by omega
      exact ⟨[], fun r h => by simp at h, .empt _ _, fun _ => by simp, .inl rfl⟩
    -- something is read there
    have hread : ∃ cs, W.cells? 0 a' (P.cellsOf e) = some cs := by
      rcases Nat.eq_zero_or_pos len' with h0 | hp
      · subst h0
        obtain ⟨r1, r2⟩ := hrest rfl
        have h1 := r2 0 (by omega)
        rw [List.getElem?_eq_getElem (by omega), Option.bind_eq_some_iff] at h1
        obtain ⟨cs, hcs, _⟩ := h1
        refine ⟨cs, ?_⟩
        rw [← hcs]
        simp [Addr.add]
      · have h1 := hel' 0 hp
        rw [List.getElem?_eq_getElem (by omega), Option.bind_eq_some_iff] at h1
        obtain ⟨cs, hcs, _⟩ := h1
        refine ⟨cs, ?_⟩
        rw [← hcs]
        simp [Addr.add]
    obtain ⟨cs0, hcs0⟩ := hread
    obtain ⟨_, hl0, hc0⟩ := World.cells?_some hcs0
    obtain ⟨g, o, spot⟩ := a'
    have hc00 := hc0 0 (by omega)
    rw [show (⟨g, o, spot⟩ : Addr).add 0 = ⟨g, o, spot⟩ by simp [Addr.add], List.getElem?_eq_getElem (by omega)] at hc00
    have hsp : spot = none ∧ g < W.heap.size := by
      unfold World.cell? at hc00
      split at hc00
      · rename_i c _ _ hh
        refine ⟨?_, (Array.getElem?_eq_some_iff.1 hh).1⟩
        cases spot with
        | none => rfl
        | some q => simp at hc00
      · cases hc00
    obtain ⟨rfl, hg⟩ := hsp
    have e1 : ∀ (x y : Nat), (⟨g, x, none⟩ : Addr).add y = ⟨g, x + y, none⟩ := fun x y => by unfold Addr.add; split <;> simp_all
    have each : ∀ i, i < len' → ∃ (us : List Value) (r : AV), us.length = T.size e ∧ (∀ j u, us[j]? = some u → W.cell? ⟨g, o + (i * T.size e + j), none⟩ = some u) ∧ Q r ∧ VL T (cx0 W) r.cells us ∧ (∀ u ∈ us, u.oneCell' = true) ∧ ∀ a ∈ r.cells, a.flat = true := by
      intro i hi
      have h1 := hel' i hi
      have hei : elems[i]? = some (elems[i]'(by omega)) := List.getElem?_eq_getElem _
      rw [hei, Option.bind_eq_some_iff] at h1
      obtain ⟨cs, hcs, htr⟩ := h1
      obtain ⟨_, hcl, hcc⟩ := World.cells?_some hcs
      obtain ⟨r, q1, q2, q3, q4⟩ := hel m cs _ htr (by rw [hcl, hce])
      refine ⟨cs, r, by rw [hcl, hce], fun j u hj => ?_, q1, q2, q3, q4⟩
      have hjl : j < P.cellsOf e := by rw [← hcl]; exact (List.getElem?_eq_some_iff.1 hj).1
      have := hcc j hjl
      rw [hj, hce] at this
      rw [e1, e1, Nat.add_assoc] at this
      exact this
    have build : ∀ m, m ≤ len' → ∃ (us : List Value) (rows : List AV), us.length = m * T.size e ∧ rows.length = m ∧ (∀ r ∈ rows, Q r ∧ r.cells.length = T.size e ∧ ∀ a ∈ r.cells, a.flat = true) ∧ (∀ j u, us[j]? = some u → W.cell? ⟨g, o + j, none⟩ = some u) ∧ (∀ u ∈ us, u.oneCell' = true) ∧
        ∀ (i : Nat) (r : AV) (j : Nat) (y : AV) (u : Value), rows[i]? = some r → r.cells[j]? = some y → us[i * T.size e + j]? = some u → V T (cx0 W) y u := by
      intro m
      induction m with
      | zero => intro _; exact ⟨[], [], by simp, rfl, fun r h => by simp at h, fun j u h => by simp at h, fun u h => by simp at h, fun i r j y u h => by simp at h⟩
      | succ m ih =>
        intro hm
        obtain ⟨us, rows, i1, i2, i3, i4, i5, i6⟩ := ih (by omega)
        obtain ⟨vs, avs, f1, f2, f3, f4, f5, f6⟩ := each m (by omega)
        refine ⟨us ++ vs, rows ++ [avs], ?_, by simp [i2], ?_, ?_, ?_, ?_⟩
        · rw [List.length_append, i1, f1, Nat.succ_mul]
        · intro r hr
          rcases List.mem_append.1 hr with hr | hr
          · exact i3 r hr
          · rcases List.mem_singleton.1 hr with rfl
            exact ⟨f3, by rw [f4.1, f1], f6⟩
        · intro j u hj
          by_cases hjl : j < us.length
          · rw [List.getElem?_append_left hjl] at hj; exact i4 j u hj
          · rw [List.getElem?_append_right (by omega)] at hj
            have := f2 _ u hj
            rw [i1] at this
            rwa [show m * T.size e + (j - m * T.size e) = j by omega] at this
        · intro u hu
          rcases List.mem_append.1 hu with hu | hu
          · exact i5 u hu
          · exact f5 u hu
        · intro i r j y u hr hy hu
          by_cases hi : i < rows.length
          · rw [List.getElem?_append_left hi] at hr
            have hrk := (i3 r (List.mem_of_getElem? hr)).2.1
            have hj : j < T.size e := by rw [← hrk]; exact (List.getElem?_eq_some_iff.1 hy).1
            have : i * T.size e + j < us.length := by
              rw [i1]
              calc i * T.size e + j < i * T.size e + T.size e := by omega
                _ = (i + 1) * T.size e := by rw [Nat.succ_mul]
                _ ≤ m * T.size e := Nat.mul_le_mul_right _ (by omega)
            rw [List.getElem?_append_left this] at hu
            exact i6 i r j y u hr hy hu
          · rw [List.getElem?_append_right (by omega)] at hr
            have hi0 : i - rows.length = 0 := by
              have := (List.getElem?_eq_some_iff.1 hr).1
              simp at this; omega
            have him : i = m := by omega
            rw [hi0] at hr
            cases hr
            subst him
            rw [List.getElem?_append_right (by rw [i1]; omega), i1, show i * T.size e + j - i * T.size e = j by omega] at hu
            exact f4.2 j y u hy hu
    obtain ⟨us, rows, b1, b2, b3, b4, b5, b6⟩ := build len' (Nat.le_refl _)
    refine ⟨rows, fun r hr => (b3 r hr).1, ?_, fun hw => ?_, .inr ⟨elems.map (·.1), rest.map (·.1), by rw [hx], by rw [List.length_map, b2]; omega⟩⟩
    rotate_left
    · subst hx
      have := hw ((elems.length + rest.length) * P.bytesOf e) (by simp [DataW.weights, hu])
      rw [b2, ← hlen]
      exact Nat.le_trans (Nat.mul_le_mul_right _ (Nat.le_add_right _ _)) this
    have := V.slf (T := T) (c := cx0 W) e rows g o cap' us hg (by rw [b2]; exact hl) hm (by rw [b2, b1]) (fun j u hj => b4 j u hj) b5
      (fun i x hx => (b3 x (List.mem_of_getElem? hx)).2.1)
      (fun i x hx j y hy => (b3 x (List.mem_of_getElem? hx)).2.2 y (List.mem_of_getElem? hy))
      (fun i x j y u hx hy hu => b6 i x j y u hx hy hu)
    rwa [b2] at this
/-- Elements that are slices: of elements alike. -/
theorem slices_el {T : Tab} (hT : TabOk P T) {H : Type} {enc : TypeId × Value → H} {W : World} {t e : TypeId} {Q : AV → Prop} (hd : T.desc t = .slice e) (hs1 : 1 ≤ T.size e) (hst : T.size t = 1)
    (hel : ∀ (m : Nat) (cs : List Value) (y : DataW H × List MemPlace), DataW.trod enc P W 0 (fun _ => true) true m e cs = some y → cs.length = T.size e → ∃ r : AV, Q r ∧ VL T (cx0 W) r.cells cs ∧ (∀ u ∈ cs, u.oneCell' = true) ∧ ∀ a ∈ r.cells, a.flat = true) :
    ∀ (m : Nat) (cs : List Value) (y : DataW H × List MemPlace), DataW.trod enc P W 0 (fun _ => true) true m t cs = some y → cs.length = T.size t → ∃ r : AV, (∃ rows, r = .sl .fz e rows ∧ ∀ r ∈ rows, Q r) ∧ VL T (cx0 W) r.cells cs ∧ (∀ u ∈ cs, u.oneCell' = true) ∧ ∀ a ∈ r.cells, a.flat = true := by
  intro m cs y h hl
  rw [hst] at hl
  obtain ⟨v, rfl⟩ := List.length_eq_one_iff.1 hl
  obtain ⟨rows, h1, h2, _, _⟩ := slice_gen hT hd hs1 hel h
  refine ⟨.sl .fz e rows, ⟨rows, rfl, h1⟩, VL.cons h2 VL.nil, fun u hu => ?_, fun a ha => ?_⟩
  · rw [List.mem_singleton.1 hu]
    exact oneCell_v h2 rfl
  · have ha : a ∈ [AV.sl .fz e rows] := ha
    rw [List.mem_singleton.1 ha]; rfl
/-- Elements of plain cells. -/
theorem plain_el {T : Tab} (hT : TabOk P T) {H : Type} {enc : TypeId × Value → H} {W : World} {t : TypeId} {n : Nat} {ks : List LK} {Q : AV → Prop} (hk : kindsA T n t = some ks) (hin : ∀ r, FitA ks r → Q (wrapT T t r)) :
    ∀ (m : Nat) (cs : List Value) (y : DataW H × List MemPlace), DataW.trod enc P W 0 (fun _ => true) true m t cs = some y → cs.length = T.size t → ∃ r : AV, Q r ∧ VL T (cx0 W) r.cells cs ∧ (∀ u ∈ cs, u.oneCell' = true) ∧ ∀ a ∈ r.cells, a.flat = true := by
  intro m cs y h _
  obtain ⟨avs, q1, q2, q3, q4⟩ := fit_av (T := T) (c := cx0 W) (fit_trod hT hk h)
  have hc := wrap_cells hk q1 (fun a ha => (q4 a ha).2.2)
  exact ⟨wrapT T t avs, hin avs q1, by rw [hc]; exact q2, q3, fun a ha => by rw [hc] at ha; exact (q4 a ha).1⟩
end Go.Proofs.YtbpcofnhndgoeaaDoor.A
