/- Operations that only look: the whole of them. -/
import Derived.Test.YtmlgkojmbnjfbaaDoorA3
namespace Go.Proofs.YtmlgkojmbnjfbaaDoor.A
open Go

section
variable {P : Program} {T : Tab} {ρ : Nat → Value} {c : Cx}

theorem VL.part {xs : List AV} {us : List Value} (h : VL T c xs us) (off n : Nat) (hn : off + n ≤ xs.length) : VL T c ((xs.drop off).take n) ((us.drop off).take n) := by
  refine ⟨by have := h.1; simp; omega, fun i x u hx hu => ?_⟩
  rw [List.getElem?_take] at hx hu
  split at hx
  · rename_i hi
    rw [if_pos hi] at hu
    rw [List.getElem?_drop] at hx hu
    exact h.2 _ x u hx hu
  · cases hx
theorem VL.agg {xs : List AV} {us : List Value} (h : VL T c xs us) : V T c (.agg xs) (.agg us.toArray) := .agg xs us h.1 h.2
theorem VL.at {xs : List AV} {us : List Value} (h : VL T c xs us) {i : Nat} {x : AV} (hx : xs[i]? = some x) : ∃ u, us[i]? = some u ∧ V T c x u := by
  have hi : i < xs.length := (List.getElem?_eq_some_iff.1 hx).1
  have hj : i < us.length := by have := h.1; omega
  exact ⟨us[i], List.getElem?_eq_getElem hj, h.2 i x _ hx (List.getElem?_eq_getElem hj)⟩

theorem V.int_inv {k : IntKind} {n : Int} {v : Value} (h : V T c (.int k n) v) : v = .int k n := by cases h; rfl
theorem V.bool_inv {b : Bool} {v : Value} (h : V T c (.bool b) v) : v = .bool b := by cases h; rfl
theorem V.str_inv {b : ByteArray} {v : Value} (h : V T c (.str b) v) : v = .string b := by cases h; rfl
theorem V.agg_inv {cs : List AV} {v : Value} (h : V T c (.agg cs) v) : ∃ us : List Value, v = .agg us.toArray ∧ VL T c cs us := by cases h with | agg _ us hl h => exact ⟨us, rfl, hl, h⟩
theorem V.tup_inv {cs : List AV} {v : Value} (h : V T c (.tup cs) v) : ∃ us : List Value, v = .tuple us.toArray ∧ VL T c cs us := by cases h with | tup _ us hl h => exact ⟨us, rfl, hl, h⟩
theorem V.ptr_inv {b off : Nat} {v : Value} (h : V T c (.ptr b off) v) : ∃ g, c.bk b = some g ∧ v = .pointer (some ⟨g, off, none⟩) := by cases h with | ptr _ _ g hb => exact ⟨g, hb, rfl⟩
theorem V.ifc_inv {t : TypeId} {x : AV} {v : Value} (h : V T c (.ifc t x) v) : ∃ u, v = .iface t u ∧ V T c x u := by cases h with | ifc _ _ u h => exact ⟨u, rfl, h⟩
theorem V.fn_inv {f : Fn} {a d : List AV} {v : Value} (h : V T c (.fn f a d) v) : ∃ us vs : List Value, v = .func f us.toArray vs.toArray ∧ VL T c a us ∧ VL T c d vs := by cases h with | fn _ _ _ us vs hl hm h h' => exact ⟨us, vs, rfl, ⟨hl, h⟩, ⟨hm, h'⟩⟩
theorem V.sl_inv {t : Tag} {e : TypeId} {xs : List AV} {v : Value} (h : V T c (.sl t e xs) v) : ∃ A cap, v = .slice A xs.length cap := by
  cases h with
  | nilsl => exact ⟨none, 0, rfl⟩
  | slf _ _ g o cap => exact ⟨_, cap, rfl⟩
  | slo F _ _ _ g us hF hv ho =>
    rcases ho.2 with ⟨rfl, h0⟩ | ⟨g', cap, cur, rfl, _⟩
    · exact ⟨none, 0, by rw [h0]⟩
    · exact ⟨_, cap, rfl⟩
/-- What an element's pointer leads to. -/
theorem V.pe_inv {t : Tag} {e : TypeId} {i off : Nat} {cs : List AV} {v : Value} (h : V T c (.pe t e i off cs) v) :
    ∃ g o us, v = .pointer (some ⟨g, o + off, none⟩) ∧ VL T c cs us ∧ Reads c.w g o us ∧ ((t = .fz ∧ c.Z g) ∨ ∃ F, t = .own F ∧ c.fm F = some g) := by
  cases h with
  | pef _ _ _ _ g o us hz hu hr hf h => exact ⟨g, o, us, rfl, ⟨hu.symm, h⟩, hr, .inl ⟨rfl, hz⟩⟩
  | peo F _ _ _ _ g us hF hu hl hn hf h => exact ⟨g, _, us, rfl, ⟨hu.symm, h⟩, reads_of_seg hn.choose_spec.1 hn.choose_spec.2, .inr ⟨F, rfl, hF⟩⟩

/-- A part of a value. -/
theorem part_sound (hT : TabOk P T) {t : TypeId} {xs : List AV} {us : List Value} {off : Nat} {K : AV → Prop} (hv : VL T c xs us) (h : partA T t xs off K) :
    ∃ x v, K x ∧ V T c x v ∧ ∀ w, (part t us.toArray off).run P w = .ok v w := by
  unfold partA at h
  split at h
  · rename_i ha
    split at h
    · rename_i hb
      have hb : off + T.size t ≤ xs.length := Nat.le_of_ble_eq_true hb
      refine ⟨_, _, h, (hv.part off (T.size t) hb).agg, fun w => ?_⟩
      unfold part
      rw [Sem.run_bind, run_isAgg hT ha]
      simp only [Result.andThen_ok, if_true, Sem.run_bind, run_size hT (known_of ha), Sem.run_pure]
      congr 2
      apply Array.ext'
      simp
    · exact h.elim
  · rename_i ha
    split at h
    · rename_i x hx
      obtain ⟨u, hu, hV⟩ := hv.at hx
      refine ⟨x, u, h, hV, fun w => ?_⟩
      unfold part
      rw [Sem.run_bind, run_isAgg hT ha]
      simp [hu]
    · exact h.elim
  · exact h.elim

/-- A part of what stands in memory. -/
theorem load_sound (hT : TabOk P T) {t : TypeId} {xs : List AV} {us : List Value} {g o off : Nat} {K : AV → Prop} (hv : VL T c xs us) (h : partA T t xs off K) :
    ∃ x v, K x ∧ V T c x v ∧ ∀ w, Reads w g o us → (Instr.loadAt t (.pointer (some ⟨g, o + off, none⟩))).run P w = .ok v w := by
  unfold partA at h
  split at h
  · rename_i ha
    split at h
    · rename_i hb
      have hb : off + T.size t ≤ xs.length := Nat.le_of_ble_eq_true hb
      refine ⟨_, _, h, (hv.part off (T.size t) hb).agg, fun w hr => ?_⟩
      obtain ⟨d, hd, hrow⟩ := und_known hT ha
      obtain ⟨i, z, hi, hsz, _⟩ := hT.info t (known_of ha)
      refine run_loadAt_mid w g (o + off) t _ d (fun j v hj => ?_) hd hrow ?_
      · rw [List.getElem?_take] at hj
        split at hj
        · rw [List.getElem?_drop] at hj
          have := hr _ v hj
          rwa [← Nat.add_assoc] at this
        · cases hj
      · have := hv.1
        simp [hi, hsz]
        omega
    · exact h.elim
  · rename_i ha
    split at h
    · rename_i x hx
      obtain ⟨u, hu, hV⟩ := hv.at hx
      refine ⟨x, u, h, hV, fun w hr => ?_⟩
      have hc := hr off u hu
      simp only [Instr.loadAt, Instr.sureAddr, Sem.run_bind, Sem.run_pure, Result.andThen_ok, loadVar, run_isAgg hT ha, Bool.false_eq_true, if_false]
      simp [load, Sem.run, hc]
    · exact h.elim
  · exact h.elim

theorem reads_of_blk {w : World} {g : Nat} {e : TypeId} {us : List Value} (h : w.heap[g]? = some (.cells us.toArray e (0, 0))) : Reads w g 0 us := by
  intro j u hu
  rw [Nat.zero_add, cell_of_row w g j us.toArray e (0, 0) h]
  simpa using hu

theorem field_run (hT : TabOk P T) {t : TypeId} {fs : List (Nat × TypeId)} (ht : T.desc t = .struct fs) {f o u : Nat} (hf : fs[f]? = some (o, u)) (hs : T.size u ≠ 0) (g off : Nat) (w : World) :
    (Instr.fieldAt t (.pointer (some ⟨g, off, none⟩)) f).run P w = .ok (.pointer (some ⟨g, off + o, none⟩)) w := by
  obtain ⟨fields, hu, hfs⟩ := hT.field ht
  obtain ⟨fd, h1, h2, h3, h4⟩ := hfs f o u hf
  subst h2
  subst h3
  simp only [Instr.fieldAt, Sem.run_bind, run_underlying hu, Result.andThen_ok, h1, Instr.sureAddr, Sem.run_pure, fieldPlace, run_size hT h4, hs, if_false]
  simp [Addr.add_mid]

theorem VL.map {s : St} {a : Act} (hR : Rel T ρ c s a) (l : List Operand) : VL T c (l.map s.ev) (l.map a.eval) := by
  refine ⟨by simp, fun i x u hx hu => ?_⟩
  rw [List.getElem?_map] at hx hu
  cases hl : l[i]? with
  | none => rw [hl] at hx; cases hx
  | some y =>
    rw [hl] at hx hu
    cases hx
    cases hu
    exact hR.ev y

theorem V.pe_shift {t : Tag} {e : TypeId} {i off : Nat} {cs : List AV} {v : Value} (h : V T c (.pe t e i off cs) v) :
    ∃ g p, v = .pointer (some ⟨g, p + off, none⟩) ∧ ∀ off', V T c (.pe t e i off' cs) (.pointer (some ⟨g, p + off', none⟩)) := by
  cases h with
  | pef _ _ _ _ g o us hz hu hr hf h => exact ⟨g, o, rfl, fun off' => .pef _ _ _ _ g o us hz hu hr hf h⟩
  | peo F _ _ _ _ g us hF hu hl hr hf h => exact ⟨g, _, rfl, fun off' => .peo F _ _ _ _ g us hF hu hl hr hf h⟩

theorem seg_at {α : Type} {l : List α} {k n i : Nat} {x : α} (h : ((l.drop k).take n)[i]? = some x) : l[k + i]? = some x ∧ i < n := by
  rw [List.getElem?_take] at h
  split at h
  · rw [List.getElem?_drop] at h
    exact ⟨h, by assumption⟩
  · cases h

/-- An element of a slice, by its pointer. -/
theorem V.elem {t : Tag} {e : TypeId} {xs : List AV} {v : Value} (h : V T c (.sl t e xs) v) {i : Nat} {x : AV} (hx : xs[i]? = some x) :
    ∃ g o cap, v = .slice (some ⟨g, o, none⟩) xs.length cap ∧ V T c (.pe t e i 0 x.cells) (.pointer (some ⟨g, o + i * T.size e, none⟩)) := by
  have hi : i < xs.length := (List.getElem?_eq_some_iff.1 hx).1
  have hm : i * T.size e + T.size e ≤ xs.length * T.size e := by
    have := Nat.mul_le_mul_right (T.size e) (show i + 1 ≤ xs.length from hi)
    rwa [Nat.succ_mul] at this
  cases h with
  | nilsl => simp at hx
  | slf _ _ g o cap us hz hc hmx hu hr h1 hs hf h =>
    refine ⟨g, o, cap, rfl, ?_⟩
    have := V.pef (T := T) (c := c) e i 0 x.cells g (o + i * T.size e) ((us.drop (i * T.size e)).take (T.size e)) hz (by simp [hs i x hx]; omega)
      (fun j u hj => by rw [Nat.add_assoc]; exact hr _ u (seg_at hj).1) (fun j y hy => hf i x hx j y hy) (fun j y u hy hj => h i x j y u hx hy (seg_at hj).1)
    simpa using this
  | slo F _ _ _ g us hF hv ho h1 hs hf h =>
    rcases ho.2 with ⟨rfl, h0⟩ | ⟨g', cap, cur, rfl, _, hgg, _, _, _, htake⟩
    · omega
    · obtain rfl : g' = g := by simpa [Value.ownBlock] using hv
      refine ⟨g', 0, cap, rfl, ?_⟩
      have := V.peo (T := T) (c := c) F e i 0 x.cells g' ((us.drop (i * T.size e)).take (T.size e)) hF (by have := ho.1; simp [hs i x hx]; omega) (hs i x hx)
        ⟨cur, hgg, by rw [← htake, List.drop_take, List.take_take, Nat.min_eq_left (by omega)]⟩
        (fun j y hy => hf i x hx j y hy) (fun j y u hy hj => h i x j y u hx hy (seg_at hj).1)
      simpa using this

/-- A value's cells. -/
theorem V.cells {x : AV} {v : Value} (h : V T c x v) (hs : x.solid = true) : VL T c x.cells v.cells.toList := by
  have one : ∀ {x : AV} {v : Value}, V T c x v → x.cells = [x] → v.cells = #[v] → VL T c x.cells v.cells.toList := by
    intro x v h hx hv
    rw [hx, hv]
    refine ⟨rfl, fun i y u hy hu => ?_⟩
    cases i with
    | zero => simp at hy hu; subst hy; subst hu; exact h
    | succ i => simp at hy
  cases h with
  | agg cs us hl h => exact ⟨by simpa [AV.cells, Value.cells] using hl, by simpa [AV.cells, Value.cells] using h⟩
  | tup => simp [AV.solid] at hs
  | bad => simp [AV.solid] at hs
  | pef => simp [AV.solid] at hs
  | peo => simp [AV.solid] at hs
  | int => exact one (.int _ _) rfl rfl
  | bool => exact one (.bool _) rfl rfl
  | str => exact one (.str _) rfl rfl
  | ptr b off g hb => exact one (.ptr b off g hb) rfl rfl
  | nilptr => exact one .nilptr rfl rfl
  | nilsl => exact one (.nilsl _ _) rfl rfl
  | slf e xs g o cap us hz hc hm hu hr h1 hs' hf h => exact one (.slf e xs g o cap us hz hc hm hu hr h1 hs' hf h) rfl rfl
  | slo F e xs v g us hF hv ho h1 hs' hf h => exact one (.slo F e xs v g us hF hv ho h1 hs' hf h) rfl (by rcases ho.2 with ⟨rfl, _⟩ | ⟨_, _, _, rfl, _⟩ <;> rfl)
  | fn f a d us vs hl hm h h' => exact one (.fn f a d us vs hl hm h h') rfl rfl
  | nilfn => exact one .nilfn rfl rfl
  | ifc t x u h => exact one (.ifc t x u h) rfl rfl
  | nilifc => exact one .nilifc rfl rfl
  | mp b g hb => exact one (.mp b g hb) rfl rfl
  | nilmp => exact one .nilmp rfl rfl

def putV : List Value → Nat → List Value → List Value
  | us, _, [] => us
  | us, off, v :: vs => putV (us.set off v) (off + 1) vs
theorem putV_length : ∀ (vs us : List Value) (off : Nat), (putV us off vs).length = us.length
  | [], us, off => rfl
  | v :: vs, us, off => by simp [putV, putV_length vs]
theorem VL.set {xs : List AV} {us : List Value} (h : VL T c xs us) (i : Nat) {x : AV} {u : Value} (hV : V T c x u) : VL T c (xs.set i x) (us.set i u) := by
  refine ⟨by simpa using h.1, fun j y w hy hw => ?_⟩
  rw [List.getElem?_set] at hy hw
  by_cases hij : i = j
  · subst hij
    rw [if_pos rfl] at hy hw
    split at hy
    · split at hw
      · cases hy; cases hw; exact hV
      · cases hw
    · cases hy
  · rw [if_neg hij] at hy hw
    exact h.2 j y w hy hw
theorem VL.put : ∀ {ys : List AV} {vs : List Value} {xs : List AV} {us : List Value} (off : Nat), VL T c xs us → VL T c ys vs → VL T c (putCells xs off ys) (putV us off vs)
  | [], [], _, _, _, h, _ => h
  | [], _ :: _, _, _, _, _, h => by have := h.1; simp at this
  | _ :: _, [], _, _, _, _, h => by have := h.1; simp at this
  | y :: ys, v :: vs, xs, us, off, h, h' => by
    have hy : V T c y v := h'.2 0 y v rfl rfl
    have ht : VL T c ys vs := ⟨by have := h'.1; simpa using this, fun i x u hx hu => h'.2 (i + 1) x u (by simpa using hx) (by simpa using hu)⟩
    exact VL.put (off + 1) (h.set off hy) ht
theorem fold_put (off : Nat) : ∀ (vs : List Value) (k : Nat) (us : List Value), (vs.zipIdx k).foldl (fun (cs : Array Value) (p : Value × Nat) => cs.setIfInBounds (off + p.2) p.1) us.toArray = (putV us (off + k) vs).toArray
  | [], k, us => rfl
  | v :: vs, k, us => by
    simp only [List.zipIdx_cons, List.foldl_cons, putV, List.setIfInBounds_toArray]
    rw [fold_put off vs (k + 1)]
    rfl
theorem fill_sound {pa pl : Nat → Option (Nat × Nat)} (hp : ∀ i, pa i ≠ none → pl i = pa i) : ∀ {ps : List (Nat × AV)} {qs : List (Nat × Value)} {xs ys : List AV} {us : List Value}, VL T c xs us → ps.length = qs.length →
    (∀ (i : Nat) (p : Nat × AV) (q : Nat × Value), ps[i]? = some p → qs[i]? = some q → p.1 = q.1 ∧ V T c p.2 q.2) → fillA pa xs ps = some ys → ∃ vs : List Value, Instr.fill pl us.toArray qs = some vs.toArray ∧ VL T c ys vs
  | [], [], _, _, us, h, _, _, hf => by simp only [fillA, Option.some.injEq] at hf; subst hf; exact ⟨us, by simp [Instr.fill], h⟩
  | [], _ :: _, _, _, _, _, hl, _, _ => by simp at hl
  | _ :: _, [], _, _, _, _, hl, _, _ => by simp at hl
  | (i, x) :: ps, (j, v) :: qs, xs, ys, us, h, hl, hq, hf => by
    obtain ⟨hij, hV⟩ := hq 0 (i, x) (j, v) rfl rfl
    cases hij
    simp only [fillA] at hf
    cases hpa : pa i with
    | none => rw [hpa] at hf; cases hf
    | some q =>
      obtain ⟨off, n⟩ := q
      rw [hpa] at hf
      simp only [] at hf
      split at hf
      · rename_i hs hb hle
        have hb := Nat.eq_of_beq_eq_true hb
        have hle := Nat.le_of_ble_eq_true hle
        have hc := hV.cells hs
        have hsz : v.cells.size = n := by have := hc.1; simp at this; omega
        obtain ⟨vs, h1, h2⟩ := fill_sound hp (h.put off hc) (by simpa using hl) (fun k p q hp hq' => hq (k + 1) p q (by simpa using hp) (by simpa using hq')) hf
        refine ⟨vs, ?_, h2⟩
        have hle' : ¬ (off + v.cells.size > us.length) := by have := h.1; omega
        have hfold : Array.foldl (fun (cs : Array Value) (x : Value × Nat) => cs.setIfInBounds (off + x.snd) x.fst) us.toArray v.cells.zipIdx = (putV us off v.cells.toList).toArray := by
          have := fold_put off v.cells.toList 0 us
          rw [Nat.add_zero] at this
          rw [← this, ← Array.foldl_toList, Array.toList_zipIdx]
        simp only [Instr.fill, hp i (by rw [hpa]; simp), hpa, hsz, List.size_toArray]
        rw [hsz] at hle'
        simp only [ne_eq, not_true_eq_false, decide_false, hle', Bool.or_self, Bool.false_eq_true, if_false]
        rw [hfold]
        exact h1
      · cases hf

theorem und_plain (hT : TabOk P T) {t : TypeId} (h1 : T.desc t ≠ .iface) (h2 : T.desc t ≠ .other) : ∃ d, P.underlying t = some d ∧ ∀ ms, d ≠ .interface ms := by
  cases hd : T.desc t
  case int k => exact ⟨_, hT.int t k hd, by simp⟩
  case bool => exact ⟨_, hT.bool t hd, by simp⟩
  case str => exact ⟨_, hT.str t hd, by simp⟩
  case slice e => exact ⟨_, (hT.slice t e hd).1, by simp⟩
  case struct fs => obtain ⟨f, hf, _⟩ := hT.struct t fs hd; exact ⟨_, hf, by simp⟩
  case arr n e => exact ⟨_, (hT.arr t n e hd).1, by simp⟩
  case ptr e => exact ⟨_, hT.ptr t e hd, by simp⟩
  case mp k e => exact ⟨_, hT.mp t k e hd, by simp⟩
  case func => obtain ⟨a, b, d, hf⟩ := hT.func t hd; exact ⟨_, hf, by simp⟩
  case iface => exact absurd hd h1
  case other => exact absurd hd h2

theorem VL.nil : VL T c [] [] := ⟨rfl, fun i x u hx => by simp at hx⟩
theorem VL.cons {x : AV} {u : Value} {xs : List AV} {us : List Value} (h : V T c x u) (h' : VL T c xs us) : VL T c (x :: xs) (u :: us) := by
  refine ⟨by simpa using h'.1, fun i y w hy hw => ?_⟩
  cases i with
  | zero => simp at hy hw; subst hy; subst hw; exact h
  | succ i => exact h'.2 i y w (by simpa using hy) (by simpa using hw)

theorem run_places (hT : TabOk P T) : ∀ (l : List Field), (∀ f ∈ l, T.desc f.type ≠ .other) → ∀ w, ((l.mapM fun f => do pure (f.offset, ← sizeOf f.type) : Sem (List (Nat × Nat))).run P w) = .ok (l.map fun f => (f.offset, T.size f.type)) w
  | [], _, w => by simp
  | f :: l, h, w => by
    rw [List.mapM_cons]
    simp only [Sem.run_bind, run_size hT (h f List.mem_cons_self), Result.andThen_ok, Sem.run_pure, run_places hT l (fun g hg => h g (List.mem_cons_of_mem _ hg)), List.map_cons]
theorem run_places_arr (hT : TabOk P T) (fields : Array Field) (h : ∀ f ∈ fields.toList, T.desc f.type ≠ .other) (w : World) : ((fields.mapM fun f => do pure (f.offset, ← sizeOf f.type) : Sem (Array (Nat × Nat))).run P w) = .ok (fields.map fun f => (f.offset, T.size f.type)) w := by
  rw [Array.mapM_eq_mapM_toList, map_eq_pure_bind, Sem.run_bind, run_places hT fields.toList h]
  simp only [Result.andThen_ok, Sem.run_pure]
  congr 1
  apply Array.ext'
  rw [Array.toList_map]

theorem blt_sound (hT : TabOk P T) {s : St} {a : Act} (hR : Rel T ρ c s a) {b : Builtin} {args : List Operand} {ts : List TypeId} (ty : TypeId) {K : AV → Prop} (h : bltA T s b args ts K) :
    ∃ x v, K x ∧ V T c x v ∧ ∀ w cs, (builtin b ts.toArray ty cs (args.map a.eval).toArray).run P w = .ok (.value v) w := by
  unfold bltA at h
  split at h
  · rename_i x t
    have hq := hR.ev x
    split at h
    · rename_i hd e
      rw [e] at hq
      obtain ⟨A, cap, hv⟩ := hq.sl_inv
      exact ⟨_, _, h, .int _ _, fun w cs => by simp [builtin, Builtin.len_, run_underlying (hT.slice _ _ hd).1, hv, goInt]⟩
    · rename_i hd e
      rw [e] at hq
      exact ⟨_, _, h, .int _ _, fun w cs => by simp [builtin, Builtin.len_, run_underlying (hT.str _ hd), hq.str_inv, goInt]⟩
    · exact h.elim
  · rename_i x y
    have hq := hR.ev x
    have hq' := hR.ev y
    split at h
    · rename_i e e'
      rw [e] at hq
      rw [e'] at hq'
      exact ⟨_, _, h, .int _ _, fun w cs => by simp [builtin, Builtin.min_, hq.int_inv, hq'.int_inv, Builtin.min2]⟩
    · exact h.elim
  · rename_i x y
    have hq := hR.ev x
    have hq' := hR.ev y
    split at h
    · rename_i e e'
      rw [e] at hq
      rw [e'] at hq'
      exact ⟨_, _, h, .int _ _, fun w cs => by simp [builtin, Builtin.max_, hq.int_inv, hq'.int_inv, Builtin.max2]⟩
    · exact h.elim
  · exact h.elim

theorem nilNil_eql {t : TypeId} {ms : Array (String × TypeId)} (hu : P.underlying t = some (.interface ms)) (px : Operand) (w : World) : (do eqGuard .eql t px (.const .nilIface) .nilIface .nilIface; binOp .eql t .nilIface .nilIface).run P w = .ok (.bool true) w := by
  obtain ⟨d, he⟩ := equal_run t
  simp [eqGuard, binOp, he, Op.equalIn, run_underlying hu]
theorem nilNil_neq {t : TypeId} {ms : Array (String × TypeId)} (hu : P.underlying t = some (.interface ms)) (px : Operand) (w : World) : (do eqGuard .neq t px (.const .nilIface) .nilIface .nilIface; binOp .neq t .nilIface .nilIface).run P w = .ok (.bool false) w := by
  obtain ⟨d, he⟩ := equal_run t
  simp [eqGuard, binOp, he, Op.equalIn, run_underlying hu]
theorem look_sound (hT : TabOk P T) {s : St} {a : Act} (hR : Rel T ρ c s a) {o : Oper} {K : AV → Prop} (h : lookA T s o.op K) : ∃ x, K x ∧ Looks P T c s a o x := by
  obtain ⟨dst, op, type, pos, after, guard⟩ := o
  cases op <;> simp only [lookA] at h
  case move x => exact ⟨_, h, a.eval x, hR.ev x, fun w _ => by simp [execOp]⟩
  case assign x => exact ⟨_, h, a.eval x, hR.ev x, fun w _ => by simp [execOp]⟩
  case pick q x y =>
    have hq := hR.ev q
    split at h
    · rename_i e
      rw [e] at hq
      exact ⟨_, h, a.eval x, hR.ev x, fun w _ => by simp [execOp, hq.bool_inv, asBool]⟩
    · rename_i e
      rw [e] at hq
      exact ⟨_, h, a.eval y, hR.ev y, fun w _ => by simp [execOp, hq.bool_inv, asBool]⟩
    · exact h.elim
  case binOp op t x y yt =>
    split at h
    · rename_i b hb
      have hq := hR.ev x
      unfold nilNil at hb
      split at hb
      · rename_i hd e2
        rw [e2] at hq
        cases hb
        obtain ⟨ms, hu⟩ := hT.iface t hd
        refine ⟨_, h, .bool true, .bool true, fun w _ => ?_⟩
        cases hx : a.eval x <;> rw [hx] at hq <;> first | (cases hq; done) | skip
        have key := nilNil_eql hu x w
        have e3 : a.eval (.const .nilIface) = .nilIface := rfl
        simp only [execOp, hx, e3, Sem.run_bind] at key ⊢
        rw [key]
        simp
      · rename_i hd e2
        rw [e2] at hq
        cases hb
        obtain ⟨ms, hu⟩ := hT.iface t hd
        refine ⟨_, h, .bool false, .bool false, fun w _ => ?_⟩
        cases hx : a.eval x <;> rw [hx] at hq <;> first | (cases hq; done) | skip
        have key := nilNil_neq hu x w
        have e3 : a.eval (.const .nilIface) = .nilIface := rfl
        simp only [execOp, hx, e3, Sem.run_bind] at key ⊢
        rw [key]
        simp
      · cases hb
    · obtain ⟨z, r, hK, hV, hr⟩ := bin_sound hT (hR.ev x) (hR.ev y) h
      refine ⟨z, hK, r, hV, fun w _ => ?_⟩
      have := hr w x y
      simp only [execOp, Sem.run_bind] at this ⊢
      rw [this]
      simp
  case unOp op t x =>
    have hq := hR.ev x
    split at h
    · rename_i e
      rw [e] at hq
      exact ⟨_, h, _, .bool _, fun w _ => by simp [execOp, hq.bool_inv, Op.unary]⟩
    · rename_i e
      rw [e] at hq
      exact ⟨_, h, _, .int _ _, fun w _ => by simp [execOp, hq.int_inv, Op.unary, Op.intArith]⟩
    · rename_i e
      rw [e] at hq
      exact ⟨_, h, _, .int _ _, fun w _ => by simp [execOp, hq.int_inv, Op.unary, Op.intBits, bitsV]⟩
    · exact h.elim
  case convert src dst x =>
    have hq := hR.ev x
    split at h
    · rename_i hs hd e
      rw [e] at hq
      refine ⟨_, h, _, .int _ _, fun w _ => ?_⟩
      simp [execOp, convert, hq.int_inv, run_underlying (hT.int _ _ hs), run_underlying (hT.int _ _ hd), Conv.intToInt]
    · exact h.elim
  case fieldAddr t x f =>
    have hq := hR.ev x
    split at h
    · rename_i hd e
      rw [e] at hq
      obtain ⟨g, hb, hv⟩ := hq.ptr_inv
      split at h
      · rename_i hf
        unfold posA at h
        split at h
        · exact h.elim
        · rename_i hs
          exact ⟨_, h, _, .ptr _ _ g hb, fun w _ => by simp [execOp, hv, field_run hT hd hf (by omega) g _ w]⟩
      · exact h.elim
    · rename_i hd e
      rw [e] at hq
      split at h
      · rename_i hf
        unfold posA at h
        split at h
        · exact h.elim
        · rename_i hs
          obtain ⟨g, p, hv, hsh⟩ := hq.pe_shift
          exact ⟨_, h, _, hsh _, fun w _ => by simp [execOp, hv, field_run hT hd hf (by omega) g _ w, Nat.add_assoc]⟩
      · exact h.elim
    · exact h.elim
  case field t x f =>
    have hq := hR.ev x
    split at h
    · rename_i hd e
      rw [e] at hq
      obtain ⟨us, hv, hl⟩ := hq.agg_inv
      split at h
      · rename_i hf
        obtain ⟨x', v, hK, hV, hr⟩ := part_sound hT hl h
        refine ⟨x', hK, v, hV, fun w _ => ?_⟩
        obtain ⟨fields, hu, hfs⟩ := hT.field hd
        obtain ⟨fd, h1, h2, h3, h4⟩ := hfs f _ _ hf
        subst h2
        subst h3
        simp [execOp, Instr.field, run_underlying hu, h1, hv, asAgg, hr]
      · exact h.elim
    · exact h.elim
  case indexAddr t x i =>
    have hq := hR.ev x
    have hi := hR.ev i
    split at h
    · rename_i hd e e'
      rw [e] at hq
      rw [e'] at hi
      split at h
      · rename_i hb
        obtain ⟨y, h0, hy, hK⟩ := h
        obtain ⟨m, hm⟩ := Int.eq_ofNat_of_zero_le h0
        subst hm
        rw [Int.toNat_natCast] at hy hK
        obtain ⟨g, o, cap, hv, hV⟩ := hq.elem hy
        have hlt := (List.getElem?_eq_some_iff.1 hy).1
        have he := Nat.eq_of_beq_eq_true hb
        subst he
        refine ⟨_, hK, _, hV, fun w _ => ?_⟩
        obtain ⟨hu, hne⟩ := hT.slice _ _ hd
        simp [execOp, hv, hi.int_inv, Instr.indexAt, asIntOf, run_underlying hu, hlt, run_size hT hne, Addr.add_mid]
      · exact h.elim
    · rename_i hd e e'
      rw [e] at hq
      rw [e'] at hi
      obtain ⟨j, hj, hlt, hK⟩ := h
      obtain ⟨g, hb, hv⟩ := hq.ptr_inv
      obtain ⟨hu, hne⟩ := hT.arr _ _ _ hd
      refine ⟨_, hK, _, .ptr _ _ g hb, fun w _ => ?_⟩
      subst hj
      have hlt' : (j : Int) < ((_ : Nat) : Int) := Int.ofNat_lt.2 hlt
      simp [execOp, hv, hi.int_inv, Instr.indexAt, asIntOf, run_underlying hu, Instr.sureAddr, hlt, run_size hT hne, Addr.add_mid]
    · exact h.elim
  case index t x i =>
    have hq := hR.ev x
    have hi := hR.ev i
    split at h
    · rename_i hd e e'
      rw [e] at hq
      rw [e'] at hi
      obtain ⟨j, hj, hlt, hK⟩ := h
      obtain ⟨us, hv, hl⟩ := hq.agg_inv
      obtain ⟨hu, hne⟩ := hT.arr _ _ _ hd
      obtain ⟨x', v, hK, hV, hr⟩ := part_sound hT hl hK
      refine ⟨x', hK, v, hV, fun w _ => ?_⟩
      subst hj
      simp [execOp, hv, hi.int_inv, Instr.index, asIntOf, run_underlying hu, hlt, run_size hT hne, hr]
    · exact h.elim
  case load t x =>
    have hq := hR.ev x
    split at h
    · rename_i e
      rw [e] at hq
      obtain ⟨g, hb, hv⟩ := hq.ptr_inv
      split at h
      · rename_i hh
        obtain ⟨g', hb', us, hblk, hl, _⟩ := hR.h _ _ hh
        obtain rfl : g = g' := by rw [hb] at hb'; exact Option.some.inj hb'
        obtain ⟨x', v, hK, hV, hr⟩ := load_sound (g := g) (o := 0) hT hl h
        refine ⟨x', hK, v, hV, fun w hw => ?_⟩
        simp only [SeesO, e] at hw
        have hblk' := (hw g hb).trans hblk
        have := hr w (reads_of_blk hblk')
        rw [Nat.zero_add] at this
        simp [execOp, hv, this]
      · exact h.elim
    · rename_i e
      rw [e] at hq
      obtain ⟨g, o, us, hv, hl, hrd, hin⟩ := hq.pe_inv
      obtain ⟨x', v, hK, hV, hr⟩ := load_sound (g := g) (o := o) hT hl h
      refine ⟨x', hK, v, hV, fun w hw => ?_⟩
      simp only [SeesO, e] at hw
      have := hr w (hrd.move (hin.elim (fun h => hw.1 g h.2) fun ⟨F, h, hF⟩ => hw.2 F h g hF))
      simp [execOp, hv, this]
    · exact h.elim
  case nilCheck x =>
    have hq := hR.ev x
    split at h
    · rename_i e
      rw [e] at hq
      obtain ⟨g, hb, hv⟩ := hq.ptr_inv
      exact ⟨_, h, _, .ptr _ _ g hb, fun w _ => by simp [execOp, hv]⟩
    · rename_i e
      rw [e] at hq
      obtain ⟨g, p, hv, hsh⟩ := hq.pe_shift
      exact ⟨_, h, _, hsh _, fun w _ => by simp [execOp, hv]⟩
    · exact h.elim
  case extract x i =>
    have hq := hR.ev x
    split at h
    · rename_i e
      rw [e] at hq
      obtain ⟨us, hv, hl⟩ := hq.tup_inv
      split at h
      · rename_i hx
        obtain ⟨u, hu, hV⟩ := hl.at hx
        exact ⟨_, h, u, hV, fun w _ => by simp [execOp, hv, Instr.extract, hu]⟩
      · exact h.elim
    · exact h.elim
  case makeInterface t x =>
    have hni : (T.desc t ≠ .iface ∧ T.desc t ≠ .other) ∧ K (.ifc t (s.ev x)) := by
      cases hd : T.desc t <;> rw [hd] at h <;> first | exact h.elim | exact ⟨⟨by simp, by simp⟩, h⟩
    obtain ⟨⟨n1, n2⟩, hK⟩ := hni
    obtain ⟨d, hu, hd⟩ := und_plain hT n1 n2
    refine ⟨_, hK, _, .ifc t _ _ (hR.ev x), fun w _ => ?_⟩
    simp only [execOp, Instr.makeInterface, Sem.run_bind, run_underlying hu, Result.andThen_ok]
    cases d <;> first | exact absurd rfl (hd _) | simp
  case makeFunc f a' c' =>
    refine ⟨_, h, _, .fn f _ _ (a'.toList.map a.eval) (c'.toList.map a.eval) (by simp) (by simp) (VL.map hR a'.toList).2 (VL.map hR c'.toList).2, fun w _ => ?_⟩
    simp [execOp, Instr.makeFunc]
    exact ⟨by rw [← Array.toList_map, Array.toArray_toList], by rw [← Array.toList_map, Array.toArray_toList]⟩
  case typeAssert x xt t ok =>
    have hq := hR.ev x
    have hni : (T.desc t ≠ .iface ∧ T.desc t ≠ .other) ∧ ∃ u v, s.ev x = .ifc u v ∧ ((ok = false ∧ u = t ∧ K v) ∨ (ok = true ∧ (u = t → K (.tup [v, .bool true])) ∧ (u ≠ t → K (.tup [T.zero t, .bool false])))) := by
      cases hx : s.ev x <;> rw [hx] at h <;> cases ok <;> cases hd : T.desc t <;> rw [hd] at h <;> first | exact h.elim | exact ⟨⟨by simp, by simp⟩, _, _, rfl, .inl ⟨rfl, h.1, h.2⟩⟩ | exact ⟨⟨by simp, by simp⟩, _, _, rfl, .inr ⟨rfl, h.1, h.2⟩⟩
    obtain ⟨⟨n1, n2⟩, u, v, hx, h⟩ := hni
    obtain ⟨d, hu, hd⟩ := und_plain hT n1 n2
    rw [hx] at hq
    obtain ⟨r, hv, hV⟩ := hq.ifc_inv
    rcases h with ⟨rfl, rfl, hK⟩ | ⟨rfl, h1, h2⟩
    · refine ⟨_, hK, r, hV, fun w _ => ?_⟩
      simp only [execOp, hv, Instr.typeAssert, Sem.run_bind, run_underlying hu, Result.andThen_ok]
      cases d <;> first | exact absurd rfl (hd _) | simp
    · by_cases hut : u = t
      · refine ⟨_, h1 hut, _, (VL.nil.cons (.bool true) |>.cons hV) |> fun h => .tup _ _ h.1 h.2, fun w _ => ?_⟩
        simp only [execOp, hv, Instr.typeAssert, Sem.run_bind, run_underlying hu, Result.andThen_ok]
        cases d <;> first | exact absurd rfl (hd _) | simp [hut]
      · obtain ⟨i, z, hi, _, _, hz, _, hzz, _⟩ := hT.info t n2
        refine ⟨_, h2 hut, _, (VL.nil.cons (.bool false) |>.cons (hzz T c).1) |> fun h => .tup _ _ h.1 h.2, fun w _ => ?_⟩
        simp only [execOp, hv, Instr.typeAssert, Sem.run_bind, run_underlying hu, Result.andThen_ok]
        cases d <;> first | exact absurd rfl (hd _) | simp [hut, zeroValue, typeInfo, hi, hz]
  case build t ps =>
    have hps : ∀ (i : Nat) (p : Nat × AV) (q : Nat × Value), (ps.toList.map fun p => (p.1, s.ev p.2))[i]? = some p → (ps.toList.map fun p => (p.1, a.eval p.2))[i]? = some q → p.1 = q.1 ∧ V T c p.2 q.2 := by
      intro i p q hp hq
      rw [List.getElem?_map] at hp hq
      cases hl : ps.toList[i]? with
      | none => rw [hl] at hp; cases hp
      | some y =>
        rw [hl] at hp hq
        cases hp
        cases hq
        exact ⟨rfl, hR.ev _⟩
    have hmap : (ps.map fun (i, x) => (i, a.eval x)).toList = ps.toList.map fun p => (p.1, a.eval p.2) := by simp
    split at h
    · rename_i fs hd
      split at h
      · rename_i cs hf
        obtain ⟨fields, hu, hfs, hkn0⟩ := hT.struct t _ hd
        have hkn : ∀ f ∈ fields.toList, T.desc f.type ≠ .other := fun f hf => hkn0 _ (by rw [← hfs]; exact List.mem_map.2 ⟨f, hf, rfl⟩)
        obtain ⟨i, z, hi, _, _, hz, _, hzz, _⟩ := hT.info t (by rw [hd]; simp)
        have hpp : ∀ i : Nat, (match fs[i]? with | some (o, u) => some (o, T.size u) | none => (none : Option (Nat × Nat))) ≠ none → (fields.map fun f => (f.offset, T.size f.type))[i]? = match fs[i]? with | some (o, u) => some (o, T.size u) | none => none := by
          intro i _
          rw [← hfs, List.getElem?_map, Array.getElem?_toList, Array.getElem?_map]
          cases fields[i]? <;> rfl
        obtain ⟨vs, h1, h2⟩ := fill_sound (pl := fun i => (fields.map fun f => (f.offset, T.size f.type))[i]?) hpp (hzz T c).2 (by simp) hps hf
        refine ⟨_, h, _, h2.agg, fun w _ => ?_⟩
        have hpl := run_places_arr hT fields hkn w
        have hzc : z.cells = z.cells.toList.toArray := by simp
        simp only [execOp, Instr.build, zeroValue, typeInfo, Sem.run_bind, run_program, Result.andThen_ok, hi, hz, Sem.run_pure, run_underlying hu, hpl, hmap]
        rw [hzc, h1]
        simp
      · exact h.elim
    · rename_i n e hd
      split at h
      · rename_i cs hf
        obtain ⟨hu, hne⟩ := hT.arr t n e hd
        obtain ⟨i, z, hi, _, _, hz, _, hzz, _⟩ := hT.info t (by rw [hd]; simp)
        obtain ⟨vs, h1, h2⟩ := fill_sound (pl := fun i => some (i * T.size e, T.size e)) (fun _ _ => rfl) (hzz T c).2 (by simp) hps hf
        refine ⟨_, h, _, h2.agg, fun w _ => ?_⟩
        have hzc : z.cells = z.cells.toList.toArray := by simp
        simp only [execOp, Instr.build, zeroValue, typeInfo, Sem.run_bind, run_program, Result.andThen_ok, hi, hz, Sem.run_pure, run_underlying hu, run_size hT hne, hmap]
        rw [hzc, h1]
        simp
      · exact h.elim
    · exact h.elim
  case call cl =>
    obtain ⟨callee, args, argTypes⟩ := cl
    simp only [] at h
    split at h
    · rename_i b
      obtain ⟨x, v, hK, hV, hr⟩ := blt_sound hT hR type h
      refine ⟨x, hK, v, hV, fun w _ => ?_⟩
      simp only [execOp, resolve, Sem.run_bind, Sem.run_pure, Result.andThen_ok, invoke]
      have := hr w (args.map fun | .const _ => true | _ => false)
      simp only [Array.toArray_toList] at this
      rw [show args.map a.eval = (args.toList.map a.eval).toArray by apply Array.ext'; simp]
      exact this
    · exact h.elim
  all_goals exact h.elim
end
end Go.Proofs.YtmlgkojmbnjfbaaDoor.A
