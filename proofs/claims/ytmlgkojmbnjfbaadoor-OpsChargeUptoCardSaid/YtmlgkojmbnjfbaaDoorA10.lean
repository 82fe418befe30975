/- Every operation, walked. -/
import Derived.Test.YtmlgkojmbnjfbaaDoorA9
import Derived.MapKept
import Derived.Laws.MakeOwn
import Derived.Laws.BytesString
import Derived.Laws.Cells
namespace Go.Proofs.YtmlgkojmbnjfbaaDoor.A
open Go

theorem ifT_iff {b : Bool} {p : Prop} : ifT b p ↔ b = true ∧ p := by cases b <;> simp [ifT]

theorem putV_mid (done rest vs : List Value) (h : vs.length ≤ rest.length) : putV (done ++ rest) done.length vs = done ++ vs ++ rest.drop vs.length := by
  apply List.ext_getElem?
  intro j
  rw [putV_get _ _ _ _ (by simp; omega)]
  by_cases h1 : done.length ≤ j ∧ j < done.length + vs.length
  · rw [if_pos h1, List.getElem?_append_left (by simp; omega), List.getElem?_append_right h1.1]
  · rw [if_neg h1]
    by_cases h2 : j < done.length
    · rw [List.getElem?_append_left h2, List.append_assoc, List.getElem?_append_left h2]
    · rw [List.getElem?_append_right (by omega), List.getElem?_append_right (by simp; omega), List.getElem?_drop]
      congr 1
      simp
      omega

/-- Parts laid one behind the other. -/
theorem fill_row {size : Nat} : ∀ (qs : List (Nat × Value)) (k : Nat) (done rest : List Value), qs.map (·.1) = List.range' k qs.length → done.length = k * size → rest.length = qs.length * size → (∀ q ∈ qs, q.2.cells.size = size) →
    Instr.fill (fun i => some (i * size, size)) (done ++ rest).toArray qs = some (done ++ (qs.map fun q => q.2.cells.toList).flatten).toArray
  | [], k, done, rest, _, _, hr, _ => by
    have : rest = [] := List.eq_nil_of_length_eq_zero (by simpa using hr)
    simp [Instr.fill, this]
  | (i, v) :: qs, k, done, rest, hq, hd, hr, hs => by
    simp only [List.map_cons, List.length_cons, List.range'_succ, List.cons.injEq] at hq
    obtain ⟨rfl, hq⟩ := hq
    have hsz : v.cells.size = size := hs (i, v) (by simp)
    have hvl : v.cells.toList.length = size := by rw [Array.length_toList]; exact hsz
    simp only [List.length_cons, Nat.succ_mul] at hr
    have hle' : ¬ (i * size + v.cells.size > (done ++ rest).length) := by rw [List.length_append, hd]; omega
    have hfold : Array.foldl (fun (cs : Array Value) (x : Value × Nat) => cs.setIfInBounds (i * size + x.snd) x.fst) (done ++ rest).toArray v.cells.zipIdx = (done ++ v.cells.toList ++ rest.drop size).toArray := by
      have := fold_put (i * size) v.cells.toList 0 (done ++ rest)
      rw [Nat.add_zero, ← hd, putV_mid _ _ _ (by omega), hd, hvl] at this
      rw [← this, ← Array.foldl_toList, Array.toList_zipIdx]
    have ih := fill_row qs (i + 1) (done ++ v.cells.toList) (rest.drop size) hq (by rw [List.length_append, hd, hvl, Nat.succ_mul]) (by rw [List.length_drop]; omega) (fun q hq => hs q (by simp [hq]))
    simp only [Instr.fill, hsz, List.size_toArray]
    rw [hsz] at hle'
    simp only [ne_eq, not_true_eq_false, decide_false, hle', Bool.or_self, Bool.false_eq_true, if_false]
    rw [hfold, ih]
    simp [List.append_assoc]

theorem flatten_get {size : Nat} : ∀ (ls : List (List Value)) (i j : Nat) (l : List Value), (∀ l ∈ ls, l.length = size) → ls[i]? = some l → j < size → ls.flatten[i * size + j]? = l[j]?
  | [], i, j, l, _, h, _ => by simp at h
  | m :: ls, 0, j, l, hs, h, hj => by
    simp at h
    subst h
    have := hs m (by simp)
    rw [List.flatten_cons, Nat.zero_mul, Nat.zero_add, List.getElem?_append_left (by omega)]
  | m :: ls, i + 1, j, l, hs, h, hj => by
    have hm := hs m (by simp)
    rw [List.flatten_cons, Nat.succ_mul, List.getElem?_append_right (by omega)]
    have := flatten_get ls i j l (fun l hl => hs l (by simp [hl])) (by simpa using h) hj
    rw [← this]
    congr 1
    omega
theorem flatten_length {size : Nat} : ∀ (ls : List (List Value)), (∀ l ∈ ls, l.length = size) → ls.flatten.length = ls.length * size
  | [], _ => by simp
  | m :: ls, hs => by
    rw [List.flatten_cons, List.length_append, hs m (by simp), flatten_length ls (fun l hl => hs l (by simp [hl])), List.length_cons, Nat.succ_mul, Nat.add_comm]

section
variable {P : Program} {T : Tab} {ρ : Nat → Value} {c : Cx}

theorem VL.append {xs ys : List AV} {us vs : List Value} (h : VL T c xs us) (h' : VL T c ys vs) : VL T c (xs ++ ys) (us ++ vs) := by
  refine ⟨by rw [List.length_append, List.length_append, h.1, h'.1], fun i x u hx hu => ?_⟩
  by_cases hi : i < xs.length
  · rw [List.getElem?_append_left hi] at hx
    rw [List.getElem?_append_left (by rw [← h.1]; exact hi)] at hu
    exact h.2 i x u hx hu
  · rw [List.getElem?_append_right (by omega)] at hx
    rw [List.getElem?_append_right (by rw [← h.1]; omega), ← h.1] at hu
    exact h'.2 _ x u hx hu
theorem elemOk_spec {e : TypeId} {x : AV} (h : elemOk T e x = true) : x.solid = true ∧ x.cells.length = T.size e ∧ (∀ (j : Nat) (y : AV), x.cells[j]? = some y → y.flat = true ∧ y.isCell = true) := by
  simp only [elemOk, Bool.and_eq_true] at h
  exact ⟨h.1.1, Nat.eq_of_beq_eq_true h.1.2, fun j y hy => by have := all_spec h.2 j y hy; simpa using this⟩
theorem known_spec {t : TypeId} (h : known T t = true) : T.desc t ≠ .other := by
  intro e
  simp [known, e] at h
/-- A new own slice. -/
theorem own_new {c' : Cx} {F g : Nat} {e : TypeId} {cells : Array Value} {n cap : Nat} {xs : List AV} {us : List Value} (hF : c'.fm F = some g) (hblk : c'.w.heap[g]? = some (.cells cells e (0, 0))) (hn : xs.length = n) (hc : n ≤ cap) (hm : cap ≤ maxLen)
    (hcs : cells.size = cap * T.size e) (hus : cells.toList.take (n * T.size e) = us) (h1 : ∀ u ∈ us, u.oneCell' = true) (hs : ∀ (i : Nat) (x : AV), xs[i]? = some x → x.cells.length = T.size e)
    (hf : ∀ (i : Nat) (x : AV), xs[i]? = some x → ∀ (j : Nat) (y : AV), x.cells[j]? = some y → y.flat = true)
    (h : ∀ (i : Nat) (x : AV) (j : Nat) (y : AV) (u : Value), xs[i]? = some x → x.cells[j]? = some y → us[i * T.size e + j]? = some u → V T c' y u) : V T c' (.sl (.own F) e xs) (.slice (some ⟨g, 0, none⟩) n cap) := by
  subst hn
  have hm' : xs.length * T.size e ≤ cap * T.size e := Nat.mul_le_mul_right _ hc
  refine .slo F e xs _ g us hF rfl ⟨by rw [← hus, List.length_take, show cells.toList.length = cells.size from Array.length_toList]; exact Nat.min_eq_left (by omega), .inr ⟨g, cap, cells, rfl, Nat.zero_le _, hblk, hc, hm, hcs, hus⟩⟩ h1 hs hf h

theorem op_look (hT : TabOk P T) {s : St} {a : Act} (hR : Rel T ρ c s a) {o : Oper} (hd : ∀ d, o.dst = some d → d < a.tmps.size ∧ d < 1000000) {K : St → Prop} (h : lookA T s o.op fun v => s.putF o.dst v K)
    {next : Act → World → Prop} {Q : Exit → Act → World → Prop} (hn : ∀ a' c' s', Step c c' → KeepsB c c' .non .non → Rel T ρ c' s' a' → a'.tmps.size = a.tmps.size → K s' → next a' c'.w) : o.wp P a c.w next Q := by
  obtain ⟨x, hK, v, hV, hrun⟩ := look_sound hT hR h
  rw [putF_iff] at hK
  unfold Oper.wp
  rw [hrun c.w (.self c s o)]
  exact hn _ c _ (.refl c) ⟨fun b g hb _ => ⟨hb, rfl⟩, fun F g hF _ => ⟨hF, rfl⟩⟩ (hR.put o.dst hd hV) (put_size _ _ _) hK

theorem go_store {o : Oper} {a : Act} {w w' : World} {t : TypeId} {x v : Operand} (ho : o.op = .store t x v) (hr : (Instr.storeAt t (a.eval x) (a.eval v)).run P w = .ok () w') {next : Act → World → Prop} {Q : Exit → Act → World → Prop} (hn : next (a.put o.dst undef) w') : o.wp P a w next Q := by
  unfold Oper.wp
  have : (execOp a.eval o).run P w = .ok .skip w' := by
    unfold execOp
    simp only [ho, Sem.run_bind, hr, Result.andThen_ok, Sem.run_pure]
  rw [this]
  exact hn

theorem run_store_blk (hT : TabOk P T) {t : TypeId} (hk : T.desc t ≠ .other) {v : Value} (hv : v.cells.size = T.size t) (h1 : ∀ u ∈ v.cells.toList, u.oneCell' = true) {w : World} {g off : Nat} {e : TypeId} {us : List Value} (hb : w.heap[g]? = some (.cells us.toArray e (0, 0))) (hle : off + T.size t ≤ us.length) :
    (Instr.storeAt t (.pointer (some ⟨g, off, none⟩)) v).run P w = .ok () (w.setRow g (putV us off v.cells.toList).toArray) := by
  have hst := run_storeCells_at (P := P) g off e v.cells.toList 0 us.toArray w hb (by simp [hv]; omega) h1
  have hvl : v.cells.toList.length = T.size t := by rw [Array.length_toList]; exact hv
  have he : us.take (off + 0) ++ v.cells.toList ++ us.drop (off + 0 + v.cells.toList.length) = putV us off v.cells.toList := by
    have hsplit : us = us.take off ++ us.drop off := (List.take_append_drop off us).symm
    have hl : (us.take off).length = off := by rw [List.length_take]; omega
    have := putV_mid (us.take off) (us.drop off) v.cells.toList (by rw [List.length_drop]; omega)
    rw [← hsplit, hl] at this
    rw [this, List.drop_drop, Nat.add_zero]
  simp only [Instr.storeAt, Instr.sureAddr, Sem.run_bind, Sem.run_pure, Result.andThen_ok, storeVar, run_size hT hk, hv]
  simp only [ne_eq, not_true_eq_false, if_false]
  have he' : us.toArray.toList = us := rfl
  rw [he', he] at hst
  exact hst

theorem putV_all {p : Value → Prop} : ∀ (vs us : List Value) (off : Nat), (∀ u ∈ us, p u) → (∀ u ∈ vs, p u) → ∀ u ∈ putV us off vs, p u
  | [], us, off, h, _ => h
  | v :: vs, us, off, h, h' => putV_all vs (us.set off v) (off + 1) (fun u hu => (List.mem_or_eq_of_mem_set hu).elim (h u) (fun e => e ▸ h' v (by simp))) (fun u hu => h' u (by simp [hu]))

/-- A slice made of parts. -/
theorem run_buildSlice (hT : TabOk P T) {t e : TypeId} (ht : T.desc t = .slice e) (n : Nat) (qs : Array (Nat × Value)) (hq : qs.toList.map (·.1) = List.range n) (hl : qs.toList.length = n) (hs : ∀ q ∈ qs.toList, q.2.cells.size = T.size e) (hsz : n * T.size e ≤ 16777216) (w : World) :
    (Instr.buildSlice t n qs).run P w = .ok (.slice (some ⟨w.heap.size, 0, none⟩) n n) (w.alloc (.cells (qs.toList.map fun q => q.2.cells.toList).flatten.toArray e)) := by
  obtain ⟨hu, hne⟩ := hT.slice t e ht
  obtain ⟨i, z, hi, hisz, _, hz, _⟩ := hT.info e hne
  have hn : ¬ (2 ^ 24 < n * T.size e) := by omega
  have hn' : ¬ (2 ^ 24 < n * i.size) := by rw [hisz]; exact hn
  have fin : ∀ A : Array Value, A.size = n * T.size e → Instr.fill (fun i => some (i * T.size e, T.size e)) A qs.toList = some (qs.toList.map fun q => q.2.cells.toList).flatten.toArray := fun A hA => by
    have := fill_row (size := T.size e) qs.toList 0 [] A.toList (by rw [hq, hl, List.range_eq_range']) (by simp) (by rw [hl, ← hA]; exact Array.length_toList) hs
    simpa using this
  by_cases h0 : n * T.size e = 0
  · simp only [Instr.buildSlice, run_underlying hu, run_size hT hne, h0, Sem.run_bind, Result.andThen_ok, if_true]
    simp [h0, fin, newRow]
  · simp only [Instr.buildSlice, run_underlying hu, run_size hT hne, h0, Sem.run_bind, Result.andThen_ok, if_false]
    simp [fin, newRow, hn, zeroValue, typeInfo, hi, hz]

/-- A call, walked. -/
theorem go_sound {E : En} (hC : CallOk P E.T E.R) (hJ : JOk P E.T E.J) {s : St} {a : Act} (hR : Rel E.T ρ c s a) {d : Option Tmp} (hd : ∀ d', d = some d' → d' < a.tmps.size ∧ d' < 1000000) {f : FuncId} {args : List AV} {vs : List Value} (hV : VL E.T c args vs) {K : St → Prop} (h : goA E s d f args K) :
    Enters P f ∧ Calls P f vs.toArray c.w fun e w' => ∃ v c' s', e = .returned v ∧ c'.w = w' ∧ Step c c' ∧ (E.J f = none → KeepsB c c' .non (match AV.famsL args with
      | [] => .rng (E.at d) (E.at d + 1000)
      | _ => .all)) ∧ Rel E.T ρ c' s' (a.put d v) ∧ K s' := by
  unfold goA at h
  split at h
  · rename_i j hj
    refine ⟨(hJ f j hj).1, ((hJ f j hj).2 _ _ _ h ρ c a _ hR hV).mono ?_⟩
    rintro e w' ⟨v, c', s', res, rfl, rfl, h3, h4, hv, h5⟩
    rw [putF_iff] at h5
    exact ⟨v, c', _, rfl, rfl, h3, fun e => by rw [hj] at e; (cases e), h4.put d hd hv, h5⟩
  · refine ⟨(call_sound hC hR hd hV h).1, (call_sound hC hR hd hV h).2.mono ?_⟩
    rintro e w' ⟨v, c', s', rfl, rfl, h3, hkp, h4, h5⟩
    exact ⟨v, c', s', rfl, rfl, h3, fun _ => hkp, h4, h5⟩

theorem sub_at {α : Type} {l : List α} {h k i : Nat} {x : α} (hx : ((l.take h).drop k)[i]? = some x) : l[k + i]? = some x ∧ k + i < h := by
  rw [List.getElem?_drop, List.getElem?_take] at hx
  split at hx
  · exact ⟨hx, by assumption⟩
  · cases hx

/-- A part of a slice that nobody writes. -/
theorem cut_fz {e : TypeId} {xs : List AV} {A : Option Addr} {n cap l h : Nat} (hV : V T c (.sl .fz e xs) (.slice A n cap)) (h1 : l ≤ h) (h2 : h ≤ xs.length) :
    V T c (.sl .fz e ((xs.take h).drop l)) (.slice (if cap = l then A else A.map (·.add (l * T.size e))) (h - l) (cap - l)) := by
  cases hV with
  | nilsl =>
    have : h = 0 := by simpa using h2
    subst this
    have : l = 0 := by omega
    subst this
    simp only [List.take_nil, List.drop_nil, if_true, Nat.sub_self]
    exact .nilsl _ _
  | slf _ _ g o cap us hz hc hm hu hr h1' hs hf hV =>
    have hlen : ((xs.take h).drop l).length = h - l := by simp; omega
    have hmul : l * T.size e + (h - l) * T.size e = h * T.size e := by rw [← Nat.add_mul]; congr 1; omega
    have hmul2 : h * T.size e ≤ xs.length * T.size e := Nat.mul_le_mul_right _ h2
    have hA : (if cap = l then some (⟨g, o, none⟩ : Addr) else Option.map (fun q : Addr => q.add (l * T.size e)) (some ⟨g, o, none⟩)) = some ⟨g, if cap = l then o else o + l * T.size e, none⟩ := by
      split
      · rfl
      · simp only [Option.map_some]
        unfold Addr.add
        split <;> simp_all
    rw [hA, ← hlen]
    refine .slf e _ g _ (cap - l) ((us.take (h * T.size e)).drop (l * T.size e)) hz (by omega) (by omega) (by rw [hlen]; simp; omega) ?_ ?_ ?_ ?_ ?_
    · intro j u hj
      obtain ⟨hj1, hj2⟩ := sub_at hj
      have hne : ¬ cap = l := fun e => by
        have : h = l := by omega
        subst this
        omega
      rw [if_neg hne, Nat.add_assoc]
      exact hr _ u hj1
    · intro u hu'
      exact h1' u (List.mem_of_mem_take (List.mem_of_mem_drop hu'))
    · intro i x hx
      exact hs _ x (sub_at hx).1
    · intro i x hx
      exact hf _ x (sub_at hx).1
    · intro i x j y u hx hy hu'
      obtain ⟨k1, k2⟩ := sub_at hu'
      refine hV _ x j y u (sub_at hx).1 hy ?_
      rwa [Nat.add_mul, Nat.add_assoc]
/-- A beginning of an own slice. -/
theorem cut_own {F : Nat} {e : TypeId} {xs : List AV} {A : Option Addr} {n cap h : Nat} (hV : V T c (.sl (.own F) e xs) (.slice A n cap)) (h2 : h ≤ xs.length) :
    V T c (.sl (.own F) e (xs.take h)) (.slice A h cap) := by
  generalize hv : Value.slice A n cap = v at hV
  cases hV with
  | nilsl =>
    have : h = 0 := by simpa using h2
    subst this
    cases hv
    exact .nilsl _ _
  | slo _ _ _ _ g us hF hb ho h1 hs hf hVV =>
    subst hv
    have hmul2 : h * T.size e ≤ xs.length * T.size e := Nat.mul_le_mul_right _ h2
    have hl : (xs.take h).length = h := by rw [List.length_take]; omega
    rcases ho.2 with ⟨hn, _⟩ | ⟨g', cap', cur, hn, hb0, hgg, hc, hm, hcs, htake⟩
    · cases hn; simp [Value.ownBlock] at hb
    · cases hn
      obtain rfl : g' = g := by simpa [Value.ownBlock] using hb
      refine .slo F e _ _ g' (us.take (h * T.size e)) hF rfl ⟨by rw [hl, List.length_take, ho.1]; exact Nat.min_eq_left hmul2, .inr ⟨g', cap, cur, by rw [hl], hb0, hgg, by rw [hl]; omega, hm, hcs, by rw [hl, ← htake, List.take_take, Nat.min_eq_left hmul2]⟩⟩ (fun u hu => h1 u (List.mem_of_mem_take hu)) (fun i x hx => ?_) (fun i x hx => ?_) (fun i x j y u hx hy hu => ?_)
      · rw [List.getElem?_take] at hx
        split at hx
        · exact hs i x hx
        · cases hx
      · rw [List.getElem?_take] at hx
        split at hx
        · exact hf i x hx
        · cases hx
      · rw [List.getElem?_take] at hx hu
        split at hx
        · split at hu
          · exact hVV i x j y u hx hy hu
          · cases hu
        · cases hx

theorem bound_sound {s : St} {a : Act} (hR : Rel T ρ c s a) {x : Option Operand} {dflt : Nat} {K : Nat → Prop} (h : boundA s x dflt K) (y : Nat) (code : BoundsCode) :
    ∃ k, K k ∧ (x = none → k = dflt) ∧ ∀ z, x = some z → k ≤ y → ∀ w, (Instr.sliceBound (a.eval z) y code).run P w = .ok k w := by
  unfold boundA at h
  split at h
  · exact ⟨dflt, h, fun _ => rfl, fun z hz => by cases hz⟩
  · rename_i z
    split at h
    · rename_i kk n hz
      refine ⟨n.toNat, h.2, fun hh => (by cases hh), fun z' hz' hle w => ?_⟩
      cases hz'
      have hv := (show V T c (.int kk n) (a.eval z) from hz ▸ hR.ev z).int_inv
      have h0 := h.1
      have h1 : n ≤ y := by omega
      simp [Instr.sliceBound, asIntOf, hv, h0, h1]
    · exact h.elim

/-! ### maps -/
theorem desc_key (hT : TabOk P T) {kt : TypeId} {k : AV} {u : Value} (hk : keyOk T kt k = true) (hV : V T c k u) : ∃ d, P.underlying kt = some d ∧ MapKept.IsKey d u ∧ KeyV k u := by
  unfold keyOk at hk
  split at hk
  · rename_i kk k' n hd
    obtain rfl := kind_eq hk
    have := hV.int_inv
    subst this
    exact ⟨_, hT.int kt _ hd, rfl, rfl⟩
  · rename_i b hd
    have := hV.bool_inv
    subst this
    exact ⟨_, hT.bool kt hd, trivial, rfl⟩
  · rename_i s hd
    have := hV.str_inv
    subst this
    exact ⟨_, hT.str kt hd, trivial, rfl⟩
  · cases hk
theorem keyEq_now {d : TypeDesc} {k k' : AV} {u u' : Value} {b : Bool} (hd : MapKept.IsKey d u) (h1 : KeyV k u) (h2 : KeyV k' u') (h : keyEq k k' = some b) : Instr.sameNow d u u' = some b ∧ (b = true → u' = u) := by
  unfold keyEq at h
  split at h
  · rename_i kk a kk' a'
    split at h
    · rename_i hk
      obtain rfl := kind_eq hk
      cases h1
      cases h2
      cases h
      cases d <;> simp [MapKept.IsKey] at hd
      subst hd
      refine ⟨by simp [Instr.sameNow], fun e => ?_⟩
      have : a = a' := by simpa using e
      rw [this]
    · cases h
  · rename_i a a'
    cases h1
    cases h2
    cases h
    cases d <;> simp [MapKept.IsKey] at hd
    exact ⟨rfl, fun e => by rw [show a = a' by simpa using e]⟩
  · rename_i a a'
    cases h1
    cases h2
    cases h
    cases d <;> simp [MapKept.IsKey] at hd
    exact ⟨rfl, fun e => by rw [(MapKept.bytes_beq a a').1 e]⟩
  · cases h
theorem mfind_now {d : TypeDesc} {k : AV} {u : Value} (hd : MapKept.IsKey d u) (h1 : KeyV k u) : ∀ {es : List (AV × AV)} {ns : List MapEntry} (i : Nat) {r : Option AV}, MapV T c es ns → mfind k es = some r →
    ∃ res, Instr.findNow d u ns i = some res ∧ ((r = none ∧ res = none) ∨ ∃ v j x, r = some v ∧ res = some (j, x) ∧ V T c v x)
  | [], [], i, r, _, h => by cases h; exact ⟨none, rfl, .inl ⟨rfl, rfl⟩⟩
  | [], _ :: _, _, _, h, _ => h.elim
  | _ :: _, [], _, _, h, _ => h.elim
  | (k', v) :: es, n :: ns, i, r, hM, h => by
    unfold mfind at h
    split at h
    · rename_i hk
      cases h
      obtain ⟨e1, _⟩ := keyEq_now hd h1 hM.1 hk
      exact ⟨some (i, n.val), by simp [Instr.findNow, e1], .inr ⟨v, i, n.val, rfl, rfl, hM.2.1⟩⟩
    · rename_i hk
      obtain ⟨e1, _⟩ := keyEq_now hd h1 hM.1 hk
      obtain ⟨res, e2, e3⟩ := mfind_now hd h1 (i + 1) hM.2.2 h
      exact ⟨res, by simp [Instr.findNow, e1, e2], e3⟩
    · cases h
theorem mset_now {d : TypeDesc} {k v : AV} {u x : Value} (hd : MapKept.IsKey d u) (h1 : KeyV k u) (hv : V T c v x) : ∀ {es : List (AV × AV)} {ns : List MapEntry} (i : Nat) {es' : List (AV × AV)}, MapV T c es ns → mset k v es = some es' →
    ∃ res, Instr.findNow d u ns i = some res ∧ ((res = none ∧ ∀ clock, MapV T c es' (ns ++ [{ key := u, val := x, born := clock }])) ∨ ∃ j y, res = some (i + j, y) ∧ (ns[j]?).map (·.key) = some u ∧ MapV T c es' (ns.modify j fun e => { e with key := u, val := x }))
  | [], [], i, es', _, h => by cases h; exact ⟨none, rfl, .inl ⟨rfl, fun clock => ⟨h1, hv, trivial⟩⟩⟩
  | [], _ :: _, _, _, h, _ => h.elim
  | _ :: _, [], _, _, h, _ => h.elim
  | (k', v') :: es, n :: ns, i, es', hM, h => by
    unfold mset at h
    split at h
    · rename_i hk
      cases h
      obtain ⟨e1, e2⟩ := keyEq_now hd h1 hM.1 hk
      have e2 := e2 rfl
      refine ⟨some (i, n.val), by simp [Instr.findNow, e1], .inr ⟨0, n.val, rfl, by simp [e2], ?_⟩⟩
      have hk' := hM.1
      rw [e2] at hk'
      exact ⟨hk', hv, hM.2.2⟩
    · rename_i hk
      obtain ⟨e1, _⟩ := keyEq_now hd h1 hM.1 hk
      split at h
      · rename_i es2 hes
        cases h
        obtain ⟨res, e2, e3⟩ := mset_now hd h1 hv (i + 1) hM.2.2 hes
        refine ⟨res, by simp [Instr.findNow, e1, e2], ?_⟩
        rcases e3 with ⟨rfl, e3⟩ | ⟨j, y, rfl, e4, e5⟩
        · exact .inl ⟨rfl, fun clock => ⟨hM.1, hM.2.1, e3 clock⟩⟩
        · exact .inr ⟨j + 1, y, by rw [show i + (j + 1) = i + 1 + j by omega], by simpa using e4, hM.1, hM.2.1, e5⟩
      · cases h
    · cases h
theorem mdel_now {d : TypeDesc} {k : AV} {u : Value} (hd : MapKept.IsKey d u) (h1 : KeyV k u) : ∀ {es : List (AV × AV)} {ns : List MapEntry} (i : Nat) {es' : List (AV × AV)}, MapV T c es ns → mdel k es = some es' →
    ∃ res, Instr.findNow d u ns i = some res ∧ ((res = none ∧ MapV T c es' ns) ∨ ∃ j y, res = some (i + j, y) ∧ j < ns.length ∧ MapV T c es' (ns.eraseIdx j))
  | [], [], i, es', _, h => by cases h; exact ⟨none, rfl, .inl ⟨rfl, trivial⟩⟩
  | [], _ :: _, _, _, h, _ => h.elim
  | _ :: _, [], _, _, h, _ => h.elim
  | (k', v') :: es, n :: ns, i, es', hM, h => by
    unfold mdel at h
    split at h
    · rename_i hk
      cases h
      obtain ⟨e1, e2⟩ := keyEq_now hd h1 hM.1 hk
      exact ⟨some (i, n.val), by simp [Instr.findNow, e1], .inr ⟨0, n.val, rfl, by simp, hM.2.2⟩⟩
    · rename_i hk
      obtain ⟨e1, _⟩ := keyEq_now hd h1 hM.1 hk
      split at h
      · rename_i es2 hes
        cases h
        obtain ⟨res, e2, e3⟩ := mdel_now hd h1 (i + 1) hM.2.2 hes
        refine ⟨res, by simp [Instr.findNow, e1, e2], ?_⟩
        rcases e3 with ⟨rfl, e3⟩ | ⟨j, y, rfl, e4, e5⟩
        · exact .inl ⟨rfl, hM.1, hM.2.1, e3⟩
        · exact .inr ⟨j + 1, y, by rw [show i + (j + 1) = i + 1 + j by omega], by simpa using e4, hM.1, hM.2.1, e5⟩
      · cases h
    · cases h
theorem V.mp_inv {b : Nat} {v : Value} (h : V T c (.mp b) v) : ∃ g, c.bk b = some g ∧ v = .map (some g) := by cases h with | mp _ g hb => exact ⟨g, hb, rfl⟩
theorem V.nilmp_inv {v : Value} (h : V T c .nilmp v) : v = .map none := by cases h; rfl
/-- A map's entry is set. -/
theorem set_map (hT : TabOk P T) {s : St} {a : Act} (hR : Rel T ρ c s a) {t kt e : TypeId} (ht : T.desc t = .mp kt e) {b : Nat} {es es' : List (AV × AV)} {k v : AV} {mv ku xu : Value} (hm : V T c (.mp b) mv) (hbox : s.h b = some (.mapo es)) (hk : keyOk T kt k = true) (hK : V T c k ku) (hX : V T c v xu) (hset : mset k v es = some es') :
    ∃ w', (Instr.mapUpdate t mv ku xu).run P c.w = .ok () w' ∧ Step c { c with w := w' } ∧ KeepsB c { c with w := w' } (.one b) .non ∧ Rel T ρ { c with w := w' } (s.box b (.mapo es')) a := by
  obtain ⟨g, hg, rfl⟩ := hm.mp_inv
  obtain ⟨g', hg', ns, clock, hblk, hM⟩ := hR.h b _ hbox
  obtain rfl : g' = g := Option.some.inj (hg'.symm.trans hg)
  obtain ⟨d, hd, hkey, hkv⟩ := desc_key hT hk hK
  have hu := hT.mp t kt e ht
  have hc := MapKept.run_checkKey (w := c.w) hd hkey false 9999
  obtain ⟨res, hf, hres⟩ := mset_now hkey hkv hX 0 hM hset
  have hlt : g' < c.w.heap.size := hR.ok.blt b g' hg
  have keeps : ∀ o : Obj, KeepsB c { c with w := { c.w with heap := c.w.heap.setIfInBounds g' o } } (.one b) .non := fun o => by
    have hold : ∀ k, k ≠ g' → (c.w.heap.setIfInBounds g' o)[k]? = c.w.heap[k]? := fun k hk => by rw [Array.getElem?_setIfInBounds_ne (fun e => hk e.symm)]
    refine ⟨fun b' k hb' hne => ⟨hb', hold k (fun e => ?_)⟩, fun F k hF _ => ⟨hF, hold k (fun e => hR.ok.bf b F g' hg (e ▸ hF))⟩⟩
    rw [hR.ok.bb b b' g' hg (e ▸ hb')] at hne
    simp [Tch.hits] at hne
  rcases hres with ⟨rfl, hnew⟩ | ⟨j, y, rfl, hj, hnew⟩
  · obtain ⟨h1, h2⟩ := hR.storeM (ns := ns.push { key := ku, val := xu, born := clock }) (clock := clock + 1) hg hlt (by rw [Array.toList_push]; exact hnew clock)
    refine ⟨_, ?_, h1, keeps _, h2⟩
    simp [Instr.mapUpdate, run_underlying hu, MapKept.run_getObj_map hblk, hc, MapKept.run_findKey hd hf, MapKept.run_setObj_map _ hblk]
  · rw [Nat.zero_add] at hf
    obtain ⟨h1, h2⟩ := hR.storeM (ns := ns.modify j fun e => { e with key := ku, val := xu }) (clock := clock) hg hlt (by rw [Array.toList_modify]; exact hnew)
    refine ⟨_, ?_, h1, keeps _, h2⟩
    have hold : ((ns[j]?).map (·.key)).getD ku = ku := by
      rw [Array.getElem?_toList] at hj
      rw [hj]; rfl
    simp [Instr.mapUpdate, run_underlying hu, MapKept.run_getObj_map hblk, hc, MapKept.run_findKey hd hf, MapKept.run_setObj_map _ hblk, hold, MapKept.run_keyThatStays hkey]
theorem op_sound {E : En} (hT : TabOk P E.T) (hC : CallOk P E.T E.R) (hJ : JOk P E.T E.J) {s : St} {a : Act} (hR : Rel E.T ρ c s a) {o : Oper} (hd : ∀ d, o.dst = some d → d < a.tmps.size ∧ d < 1000000) {K : St → Prop} (h : opA E s o K)
    {next : Act → World → Prop} {Q : Exit → Act → World → Prop} (hn : ∀ a' c' s', Step c c' → KeepsB c c' (touchB E s o) (touchF E s o) → Rel E.T ρ c' s' a' → a'.tmps.size = a.tmps.size → K s' → next a' c'.w) : o.wp P a c.w next Q := by
  cases hop : o.op
  case alloc e =>
    simp only [opA, hop, unq] at h
    split at h
    · rename_i d hdst
      rw [ifT_iff] at h
      obtain ⟨hk, h⟩ := h
      rw [boxF_iff, go_iff] at h
      simp only [Bool.and_eq_true] at hk
      obtain ⟨hk, hnm⟩ := hk
      obtain ⟨i, z, hi, _, _, hz, _, hzz, hz1⟩ := hT.info e (known_spec hk)
      obtain ⟨c', h1, h2, hkp, h3⟩ := hR.alloc d (hd d hdst) (E.D + d) (Nat.le_of_ble_eq_true hnm) e (hzz E.T c).2 (fun u hu => hz1 u (Array.mem_def.2 hu))
      have hrun : (execOp a.eval o).run P c.w = .ok (.value (.pointer (some ⟨c.w.heap.size, 0, none⟩))) c'.w := by
        rw [h2]
        simp [execOp, hop, Instr.alloc, zeroValue, typeInfo, hi, hz, newVar, newRow]
      unfold Oper.wp
      rw [hrun]
      show next (a.put o.dst _) _
      rw [hdst]
      exact hn _ c' _ h1 (by simp only [touchB, touchF, hop, hdst, Option.getD_some]; exact hkp) h3 (put_size _ _ _) h
    · exact h.elim
  case box e x =>
    simp only [opA, hop, unq] at h
    split at h
    · rename_i d hdst
      rw [ifT_iff] at h
      obtain ⟨hk, h⟩ := h
      rw [boxF_iff, go_iff] at h
      simp only [Bool.and_eq_true] at hk
      obtain ⟨hk, hnm⟩ := hk
      have hV := (hR.ev x).cells hk.1
      obtain ⟨c', h1, h2, hkp, h3⟩ := hR.alloc d (hd d hdst) (E.D + d) (Nat.le_of_ble_eq_true hnm) e hV (hV.one hk.2)
      have hrun : (execOp a.eval o).run P c.w = .ok (.value (.pointer (some ⟨c.w.heap.size, 0, none⟩))) c'.w := by
        rw [h2]
        simp [execOp, hop, Instr.box, newVar, newRow]
      unfold Oper.wp
      rw [hrun]
      show next (a.put o.dst _) _
      rw [hdst]
      exact hn _ c' _ h1 (by simp only [touchB, touchF, hop, hdst, Option.getD_some]; exact hkp) h3 (put_size _ _ _) h
    · exact h.elim
  case makeMap t r =>
    cases r with
    | some r => simp only [opA, hop, lookA] at h
    | none =>
      simp only [opA, hop, unq] at h
      split at h
      · rename_i d hdst
        rw [ifT_iff, go_iff, go_iff] at h
        obtain ⟨hnm, h⟩ := h
        obtain ⟨c', h1, h2, hkp, h3⟩ := hR.allocM d (hd d hdst) (E.D + d) (Nat.le_of_ble_eq_true hnm)
        have hrun : (execOp a.eval o).run P c.w = .ok (.value (.map (some c.w.heap.size))) c'.w := by
          rw [h2]
          simp [execOp, hop, Instr.makeMap, newObj, Sem.run]
        unfold Oper.wp
        rw [hrun]
        show next (a.put o.dst _) _
        rw [hdst]
        exact hn _ c' _ h1 (by simp only [touchB, touchF, hop, hdst, Option.getD_some]; exact hkp) h3 (put_size _ _ _) h
      · exact h.elim
  case lookup t m k ok =>
    simp only [opA, hop] at h
    have hm := hR.ev m
    have hk := hR.ev k
    have fin : ∀ (x : AV) (v : Value), V E.T c x v → (execOp a.eval o).run P c.w = .ok (.value v) c.w → s.putF o.dst x K → o.wp P a c.w next Q := fun x v hV hrun hK => by
      rw [putF_iff] at hK
      unfold Oper.wp
      rw [hrun]
      exact hn _ c _ (.refl c) ⟨fun b g hb _ => ⟨hb, rfl⟩, fun F g hF _ => ⟨hF, rfl⟩⟩ (hR.put o.dst hd hV) (put_size _ _ _) hK
    have none' : ∀ (kt e : TypeId), E.T.desc t = .mp kt e → known E.T e = true → ∃ z, V E.T c (E.T.zero e) z ∧ ∀ w, (zeroValue e).run P w = .ok z w := fun kt e _ hke => by
      obtain ⟨i, z, hi, _, _, hz, _, hzz, _⟩ := hT.info e (known_spec hke)
      exact ⟨z, (hzz E.T c).1, fun w => by simp [zeroValue, typeInfo, hi, hz]⟩
    split at h
    · rename_i kt e b hdt hmb
      rw [hmb] at hm
      split at h
      · rename_i es hbox
        rw [ifT_iff] at h
        obtain ⟨hkk, r, hr, h⟩ := h
        simp only [Bool.and_eq_true] at hkk
        obtain ⟨g, hg, hmv⟩ := hm.mp_inv
        obtain ⟨g', hg', ns, clock, hblk, hM⟩ := hR.h b _ hbox
        obtain rfl : g' = g := Option.some.inj (hg'.symm.trans hg)
        obtain ⟨d, hdd, hkey, hkv⟩ := desc_key hT hkk.1 hk
        have hc := fun e => MapKept.run_checkKey (w := c.w) hdd hkey e 9999
        obtain ⟨res, hf, hres⟩ := mfind_now hkey hkv 0 hM hr
        obtain ⟨z, hz, hzr⟩ := none' kt e hdt hkk.2
        have hu := hT.mp t kt e hdt
        rcases hres with ⟨rfl, rfl⟩ | ⟨v, j, x, rfl, rfl, hV⟩
        · cases ok with
          | false => exact fin _ z hz (by simp [execOp, hop, Instr.lookup, hmv, run_underlying hu, MapKept.run_getObj_map hblk, hc, MapKept.run_findKey hdd hf, hzr]) h
          | true => exact fin _ (.tuple #[z, .bool false]) (.tup _ [z, .bool false] rfl (VL.cons hz (VL.cons (.bool false) VL.nil)).2) (by simp [execOp, hop, Instr.lookup, hmv, run_underlying hu, MapKept.run_getObj_map hblk, hc, MapKept.run_findKey hdd hf, hzr]) h
        · cases ok with
          | false => exact fin _ x hV (by simp [execOp, hop, Instr.lookup, hmv, run_underlying hu, MapKept.run_getObj_map hblk, hc, MapKept.run_findKey hdd hf]) h
          | true => exact fin _ (.tuple #[x, .bool true]) (.tup _ [x, .bool true] rfl (VL.cons hV (VL.cons (.bool true) VL.nil)).2) (by simp [execOp, hop, Instr.lookup, hmv, run_underlying hu, MapKept.run_getObj_map hblk, hc, MapKept.run_findKey hdd hf]) h
      · exact h.elim
    · rename_i kt e hdt hmb
      rw [hmb] at hm
      rw [ifT_iff] at h
      obtain ⟨hkk, h⟩ := h
      simp only [Bool.and_eq_true] at hkk
      have hmv := hm.nilmp_inv
      obtain ⟨d, hdd, hkey, hkv⟩ := desc_key hT hkk.1 hk
      have hc := fun e => MapKept.run_checkKey (w := c.w) hdd hkey e 9999
      obtain ⟨z, hz, hzr⟩ := none' kt e hdt hkk.2
      have hu := hT.mp t kt e hdt
      have hf : Instr.findNow d (a.eval k) [] 0 = some none := rfl
      cases ok with
      | false => exact fin _ z hz (by simp [execOp, hop, Instr.lookup, hmv, run_underlying hu, hc, MapKept.run_findKey hdd hf, hzr]) h
      | true => exact fin _ (.tuple #[z, .bool false]) (.tup _ [z, .bool false] rfl (VL.cons hz (VL.cons (.bool false) VL.nil)).2) (by simp [execOp, hop, Instr.lookup, hmv, run_underlying hu, hc, MapKept.run_findKey hdd hf, hzr]) h
    · exact h.elim
  case mapUpdate t m k v =>
    simp only [opA, hop] at h
    split at h
    · rename_i kt e b hdt hmb
      split at h
      · rename_i es hbox
        rw [ifT_iff] at h
        obtain ⟨hkk, es', hset, h⟩ := h
        rw [go_iff] at h
        simp only [Bool.and_eq_true] at hkk
        have hm := hR.ev m
        rw [hmb] at hm
        obtain ⟨w', hr, h1, hkp, h2⟩ := set_map hT hR hdt hm hbox hkk.2 (hR.ev k) (hR.ev v) hset
        have hrun : (execOp a.eval o).run P c.w = .ok .skip w' := by
          unfold execOp
          simp only [hop, Sem.run_bind, hr, Result.andThen_ok, Sem.run_pure]
        unfold Oper.wp
        rw [hrun]
        show next (a.put o.dst _) _
        rw [Option.isNone_iff_eq_none.1 hkk.1]
        exact hn a { c with w := w' } _ h1 (by simp only [touchB, touchF, hop, hmb]; exact hkp) h2 rfl h
      · exact h.elim
    · exact h.elim
  case insert t m k v =>
    simp only [opA, hop] at h
    split at h
    · rename_i kt e b hdt hmb
      split at h
      · rename_i es hbox
        rw [ifT_iff] at h
        obtain ⟨hkk, es', hset, h⟩ := h
        rw [go_iff] at h
        simp only [Bool.and_eq_true] at hkk
        have hm := hR.ev m
        rw [hmb] at hm
        obtain ⟨w', hr, h1, hkp, h2⟩ := set_map hT hR hdt hm hbox hkk.2 (hR.ev k) (hR.ev v) hset
        have hrun : (execOp a.eval o).run P c.w = .ok .skip w' := by
          unfold execOp
          simp only [hop, Sem.run_bind, hr, Result.andThen_ok, Sem.run_pure]
        unfold Oper.wp
        rw [hrun]
        show next (a.put o.dst _) _
        rw [Option.isNone_iff_eq_none.1 hkk.1]
        exact hn a { c with w := w' } _ h1 (by simp only [touchB, touchF, hop, hmb]; exact hkp) h2 rfl h
      · exact h.elim
    · exact h.elim
  case store t x v =>
    simp only [opA, hop, unq] at h
    have hx := hR.ev x
    have hv := hR.ev v
    have skip : ∀ c' s', Step c c' → KeepsB c c' (touchB E s o) (touchF E s o) → Rel E.T ρ c' s' a → K s' → o.dst.isNone = true → next (a.put o.dst undef) c'.w := fun c' s' h1 hkp h2 h3 h4 => by
      rw [Option.isNone_iff_eq_none.1 h4]
      exact hn a c' s' h1 hkp h2 rfl h3
    split at h
    · rename_i b off hb
      split at h
      · rename_i e cs hbox
        rw [ifT_iff, boxF_iff] at h
        obtain ⟨hk, h⟩ := h
        simp only [Bool.and_eq_true] at hk
        obtain ⟨⟨⟨⟨⟨k1, k2⟩, k3⟩, k4⟩, k5⟩, k6⟩ := hk
        rw [hb] at hx
        obtain ⟨g, hg, hxv⟩ := hx.ptr_inv
        obtain ⟨g', hg', us, hblk, hVL, hone⟩ := hR.h b _ hbox
        obtain rfl : g' = g := Option.some.inj (hg'.symm.trans hg)
        have hVv := hv.cells k3
        have k5 := Nat.eq_of_beq_eq_true k5
        have k6 := Nat.le_of_ble_eq_true k6
        have hvl : (a.eval v).cells.toList.length = (a.eval v).cells.size := Array.length_toList
        have hvs : (a.eval v).cells.size = E.T.size t := by have := hVv.1; omega
        have hrun := run_store_blk (t := t) (off := off) hT (known_spec k2) hvs (hVv.one k4) hblk (by have := hVL.1; omega)
        obtain ⟨h1, h2⟩ := hR.store hg hblk (hVL.put off hVv) (putV_all _ _ _ hone (hVv.one k4)) (e := e)
        refine go_store hop (by rw [hxv]; exact hrun) (skip _ _ h1 ?_ h2 h k1)
        refine ⟨?_, fun F k hF _ => ⟨hF, setRow_other c.w g' k _ (fun e => hR.ok.bf b F g' hg (e ▸ hF))⟩⟩
        intro b' k hb' hne
        simp only [touchB, hop, hb] at hne
        exact ⟨hb', setRow_other c.w g' k _ (fun e => by rw [hR.ok.bb b b' g' hg (e ▸ hb')] at hne; simp [Tch.hits] at hne)⟩
      · exact h.elim
    · rename_i F e i off cs hb
      rw [ifT_iff, go_iff] at h
      obtain ⟨hk, h⟩ := h
      simp only [Bool.and_eq_true] at hk
      obtain ⟨⟨⟨⟨⟨k1, k2⟩, k3⟩, k4⟩, k5⟩, k6⟩ := hk
      rw [hb] at hx
      generalize hxv : a.eval x = xv at hx
      cases hx with
      | peo _ _ _ _ _ g us hF hu hl hn' hf hV =>
        obtain ⟨cur, hblk, hseg⟩ := hn'
        have hVv := hv.cells k3
        have k5 := Nat.eq_of_beq_eq_true k5
        have k6 := Nat.le_of_ble_eq_true k6
        have hin : i * E.T.size e + E.T.size e ≤ cur.size := by
          have := congrArg List.length hseg
          rw [List.length_take, List.length_drop, show cur.toList.length = cur.size from Array.length_toList] at this
          rcases Nat.eq_zero_or_pos (E.T.size e) with h0 | h0
          · rw [h0]; simp
          · omega
        have hvl : (a.eval v).cells.toList.length = (a.eval v).cells.size := Array.length_toList
        have hvs : (a.eval v).cells.size = E.T.size t := by have := hVv.1; omega
        have hfl : ∀ y ∈ (s.ev v).cells, y.flat = true ∧ y.isCell = true := fun y hy => by
          obtain ⟨j, hj⟩ := List.getElem?_of_mem hy
          have := all_spec k4 j y hj
          simpa using this
        have hone : ∀ u ∈ (a.eval v).cells.toList, u.oneCell' = true := fun u hu => by
          obtain ⟨j, hj, rfl⟩ := List.getElem_of_mem hu
          have hj' : j < (s.ev v).cells.length := by rw [hVv.1]; exact hj
          exact oneCell_v (hVv.2 j _ _ (List.getElem?_eq_getElem hj') (List.getElem?_eq_getElem hj)) (hfl _ (List.getElem_mem hj')).2
        have hblk' : c.w.heap[g]? = some (.cells cur.toList.toArray e (0, 0)) := hblk
        have hrun := run_store_blk (t := t) hT (known_spec k2) hvs hone (off := i * E.T.size e + off) hblk' (by rw [show cur.toList.length = cur.size from Array.length_toList]; omega)
        obtain ⟨h1, h2⟩ := hR.wrt (i := i) (off := off) hF hblk hVv hfl hone (by omega) hin
        refine go_store hop (by rw [hxv]; exact hrun) (skip _ _ h1 ?_ h2 h k1)
        refine ⟨fun b' k hb' _ => ⟨hb', setRow_other c.w g k _ (fun e => hR.ok.bf b' F g (e ▸ hb') hF)⟩, fun F' k hF' hne => ⟨hF', setRow_other c.w g k _ (fun e => ?_)⟩⟩
        simp only [touchF, hop, hb] at hne
        rw [hR.ok.ff F F' g hF (e ▸ hF')] at hne
        simp [Tch.hits] at hne
    · exact h.elim
  case slice t x lo hi mx =>
    simp only [opA, hop] at h
    split at h
    · rename_i e' g e xs ht hx
      rw [ifT_iff] at h
      obtain ⟨he, h⟩ := h
      have he := Nat.eq_of_beq_eq_true he
      subst he
      have hvx := hR.ev x
      rw [hx] at hvx
      obtain ⟨A, cap, hv⟩ := hvx.sl_inv
      rw [hv] at hvx
      have hcap : xs.length ≤ cap := by
        generalize hq : Value.slice A xs.length cap = q at hvx
        cases hvx with
        | nilsl => exact Nat.zero_le _
        | slf => cases hq; assumption
        | slo _ _ _ _ _ _ _ _ ho =>
          rcases ho.2 with ⟨h1, h2⟩ | ⟨_, _, _, h1, _, _, h2, _⟩
          · omega
          · rw [h1] at hq; cases hq; exact h2
      obtain ⟨hh, h, hh1, hh2⟩ := bound_sound (P := P) hR h cap .sliceAcap
      obtain ⟨ll, h, hl1, hl2⟩ := bound_sound (P := P) hR h hh .sliceB
      unfold cutA at h
      simp only [unq] at h
      obtain ⟨h1, h2, h⟩ := h
      obtain ⟨hu, hne⟩ := hT.slice t e' ht
      have hrun : (execOp a.eval o).run P c.w = .ok (.value (.slice (if cap = ll then A else A.map (·.add (ll * E.T.size e'))) (hh - ll) (cap - ll))) c.w := by
        unfold execOp
        cases lo with
        | none =>
          have := hl1 rfl
          subst this
          cases hi with
          | none =>
            have := hh1 rfl
            subst this
            simp [hop, Instr.sliceAt, Instr.slice, Instr.sliceBounds, run_underlying hu, hv, run_size hT hne]
          | some z =>
            have := hh2 z rfl (by omega) c.w
            simp [hop, Instr.sliceAt, Instr.slice, Instr.sliceBounds, run_underlying hu, hv, run_size hT hne, this]
        | some y =>
          have hy := hl2 y rfl h1 c.w
          cases hi with
          | none =>
            have := hh1 rfl
            subst this
            simp [hop, Instr.sliceAt, Instr.slice, Instr.sliceBounds, run_underlying hu, hv, run_size hT hne, hy]
          | some z =>
            have := hh2 z rfl (by omega) c.w
            simp [hop, Instr.sliceAt, Instr.slice, Instr.sliceBounds, run_underlying hu, hv, run_size hT hne, this, hy]
      unfold Oper.wp
      rw [hrun]
      show next (a.put o.dst _) _
      have same : KeepsB c c (touchB E s o) (touchF E s o) := ⟨fun b g hb _ => ⟨hb, rfl⟩, fun F g hF _ => ⟨hF, rfl⟩⟩
      cases g with
      | fz =>
        have h := putF_iff.1 h
        exact hn _ c _ (.refl c) same (hR.put o.dst hd (cut_fz hvx h1 h2)) (put_size _ _ _) h
      | nl =>
        have h := putF_iff.1 h
        have hx0 : xs = [] := (hvx.nlRow (F := 0) (e := e')).1
        subst hx0
        have : hh = 0 := by simpa using h2
        subst this
        have : ll = 0 := by omega
        subst this
        have hcut : V E.T c (.sl .nl e' (([] : List AV).take 0 |>.drop 0)) (.slice (if cap = 0 then A else A.map (·.add (0 * E.T.size e'))) (0 - 0) (cap - 0)) := by
          generalize hq : Value.slice A ([] : List AV).length cap = q at hvx
          cases hvx
          cases hq
          exact .nilsl _ _
        exact hn _ c _ (.refl c) same (hR.put o.dst hd hcut) (put_size _ _ _) h
      | own F =>
        cases hlw : lo.isSome with
        | true =>
          rw [hlw] at h
          have h := putF_iff.1 h
          obtain ⟨k1, k2, k3⟩ := hR.frz F
          have hfz := k3 _ _ hvx
          have hfz' : (AV.sl (.own F) e' xs).tr (frzF F) = .sl .fz e' xs := by
            rw [tr_leaf _ rfl]
            simp [frzF, Nat.beq_refl]
          rw [hfz'] at hfz
          exact hn _ ⟨c.w, fun g => c.Z g ∨ c.fm F = some g, c.bk, upd c.fm F none⟩ _ k1 ⟨fun b g hb _ => ⟨hb, rfl⟩, fun _ _ _ h => (by simp [touchF, hop, Tch.hits] at h)⟩ (k2.put o.dst hd (cut_fz hfz h1 h2)) (put_size _ _ _) h
        | false =>
          rw [hlw] at h
          have h := putF_iff.1 h
          have hln : lo = none := by cases lo <;> simp_all
          have := hl1 hln
          subst this
          have hA : (if cap = 0 then A else A.map (·.add (0 * E.T.size e'))) = A := by
            split
            · rfl
            · cases A with
              | none => rfl
              | some q =>
                obtain ⟨g0, o0, sp⟩ := q
                simp only [Option.map_some, Nat.zero_mul]
                unfold Addr.add
                split <;> simp_all
          rw [hA]
          exact hn _ c _ (.refl c) same (hR.put o.dst hd (cut_own hvx h2)) (put_size _ _ _) h
    · exact h.elim
  case buildSlice t n ps =>
    simp only [opA, hop, unq] at h
    split at h
    · rename_i e d ht hdst
      rw [ifT_iff] at h
      obtain ⟨hk, h⟩ := h
      rw [forceL2_iff, addH_iff, List.append_nil, ifT_iff, putF_iff, List.map_map] at h
      obtain ⟨hall, h⟩ := h
      simp only [Bool.and_eq_true] at hk
      obtain ⟨⟨⟨k1, k2⟩, k3⟩, k4⟩ := hk
      have k1 := Nat.eq_of_beq_eq_true k1
      have k2 : ps.toList.map (·.1) = List.range n := by simpa using k2
      have k4 := Nat.le_of_ble_eq_true k4
      obtain ⟨c1, h1, h2, hbk, h3, h4⟩ := hR.frzAll (AV.famsL (ps.toList.map fun p => s.ev p.2))
      generalize hfs : AV.famsL (ps.toList.map fun p => s.ev p.2) = fs at h hall h1 h2 h3 h4
      -- the parts
      have hp : ∀ (i : Nat) (p : Nat × Operand), ps.toList[i]? = some p → elemOk E.T e ((s.ev p.2).frzAll fs) = true ∧ V E.T c1 ((s.ev p.2).frzAll fs) (a.eval p.2) := fun i p hi => by
        have := all_spec hall i (s.ev p.2) (by rw [List.getElem?_map, hi]; rfl)
        exact ⟨this, h4 _ _ (hR.ev p.2)⟩
      have hq : ∀ q ∈ (ps.map fun (i, x) => (i, a.eval x)).toList, q.2.cells.size = E.T.size e := fun q hq => by
        rw [Array.toList_map] at hq
        obtain ⟨p, hp1, rfl⟩ := List.mem_map.1 hq
        obtain ⟨i, hi⟩ := List.getElem?_of_mem hp1
        obtain ⟨k, hV⟩ := hp i p hi
        obtain ⟨k1, k2, _⟩ := elemOk_spec k
        have := (hV.cells k1).1
        have hvl : (a.eval p.2).cells.toList.length = (a.eval p.2).cells.size := Array.length_toList
        show (a.eval p.2).cells.size = _
        omega
      have hrun := run_buildSlice hT ht n (ps.map fun (i, x) => (i, a.eval x)) (by rw [Array.toList_map, List.map_map, ← k2]; rfl) (by rw [Array.toList_map, List.length_map]; exact k1) hq k4 c.w
      generalize hls : ((ps.map fun (i, x) => (i, a.eval x)).toList.map fun q => q.2.cells.toList) = ls at hrun
      have hls' : ls = ps.toList.map fun p => (a.eval p.2).cells.toList := by rw [← hls, Array.toList_map, List.map_map]; rfl
      have hlen : ∀ l ∈ ls, l.length = E.T.size e := fun l hl => by
        rw [← hls] at hl
        obtain ⟨q, hq1, rfl⟩ := List.mem_map.1 hl
        exact Array.length_toList.trans (hq q hq1)
      have hll : ls.length = n := by rw [hls', List.length_map]; exact k1
      have hfl := flatten_length ls hlen
      rw [hll] at hfl
      obtain ⟨h5, h6⟩ := h3.fam (E.at (some d)) (c.w.alloc (.cells ls.flatten.toArray e)) (some c.w.heap.size) (by rw [h2, A.size_alloc]; omega) (by rw [h2]; rfl) (by rw [h2]; rfl) (by rw [h2]; rfl) (fun g hg _ => by rw [h2] at hg ⊢; exact A.heap_old _ _ _ hg) (fun g hg => by cases hg; exact ⟨by rw [A.size_alloc]; omega, .inr (by rw [h2]; exact Nat.le_refl _)⟩)
      have hZ : ∀ g, c1.Z g → c1.Z g ∧ (c.w.alloc (.cells ls.flatten.toArray e)).heap[g]? = c1.w.heap[g]? := fun g hg => ⟨hg, by rw [h2]; exact A.heap_old _ _ _ (by rw [← h2]; exact h3.ok.zlt g hg)⟩
      have hV : V E.T ⟨c.w.alloc (.cells ls.flatten.toArray e), c1.Z, c1.bk, upd c1.fm (E.at (some d)) (some c.w.heap.size)⟩ (.sl (.own (E.at (some d))) e (ps.toList.map fun p => (s.ev p.2).frzAll fs)) (.slice (some ⟨c.w.heap.size, 0, none⟩) n n) := by
        have hx : ∀ (i : Nat) (x : AV), (ps.toList.map fun p => (s.ev p.2).frzAll fs)[i]? = some x → ∃ p, ps.toList[i]? = some p ∧ x = (s.ev p.2).frzAll fs ∧ elemOk E.T e x = true ∧ V E.T c1 x (a.eval p.2) := fun i x hi => by
          rw [List.getElem?_map] at hi
          cases hpi : ps.toList[i]? with
          | none => rw [hpi] at hi; cases hi
          | some p => rw [hpi] at hi; cases hi; exact ⟨p, rfl, rfl, hp i p hpi⟩
        refine own_new (c' := ⟨c.w.alloc (.cells ls.flatten.toArray e), c1.Z, c1.bk, upd c1.fm (E.at (some d)) (some c.w.heap.size)⟩) (us := ls.flatten) (upd_eq _ _ _) (A.heap_new _ _) (by rw [List.length_map]; exact k1) (Nat.le_refl _) ?_ (by simpa using hfl) (by rw [List.take_of_length_le]; exact Nat.le_of_eq hfl) ?_ ?_ ?_ ?_
        · have k3 := Nat.le_of_ble_eq_true k3
          have := Nat.le_mul_of_pos_right n k3
          simp only [maxLen]
          omega
        · intro u hu
          obtain ⟨l, hl, hul⟩ := List.mem_flatten.1 hu
          rw [hls'] at hl
          obtain ⟨p, hp1, rfl⟩ := List.mem_map.1 hl
          obtain ⟨i, hi⟩ := List.getElem?_of_mem hp1
          obtain ⟨kk, hV⟩ := hp i p hi
          obtain ⟨k1, k2, k3⟩ := elemOk_spec kk
          have hVL := hV.cells k1
          obtain ⟨j, hj, rfl⟩ := List.getElem_of_mem hul
          have hj' : j < ((s.ev p.2).frzAll fs).cells.length := by rw [hVL.1]; exact hj
          exact oneCell_v (hVL.2 j _ _ (List.getElem?_eq_getElem hj') (List.getElem?_eq_getElem hj)) (k3 j _ (List.getElem?_eq_getElem hj')).2
        · intro i x hi
          obtain ⟨p, _, _, hok, _⟩ := hx i x hi
          exact (elemOk_spec hok).2.1
        · intro i x hi j y hy
          obtain ⟨p, _, _, hok, _⟩ := hx i x hi
          exact ((elemOk_spec hok).2.2 j y hy).1
        · intro i x j y u hi hy hu
          obtain ⟨p, hpi, hxe, hok, hV⟩ := hx i x hi
          obtain ⟨q1, q2, q3⟩ := elemOk_spec hok
          have hj : j < E.T.size e := by have := (List.getElem?_eq_some_iff.1 hy).1; omega
          rw [flatten_get ls i j (a.eval p.2).cells.toList hlen (by rw [hls', List.getElem?_map, hpi]; rfl) hj] at hu
          exact ((hV.cells q1).2 j y u hy hu).flat_move hZ (q3 j y hy).1
      unfold Oper.wp
      have hrun' : (execOp a.eval o).run P c.w = .ok (.value (.slice (some ⟨c.w.heap.size, 0, none⟩) n n)) (c.w.alloc (.cells ls.flatten.toArray e)) := by
        unfold execOp
        simp only [hop, Sem.run_bind, hrun, Result.andThen_ok, Sem.run_pure]
      rw [hrun']
      show next (a.put o.dst _) _
      refine hn _ _ _ (h1.trans h5) ⟨fun b g hb _ => ⟨by rw [hbk]; exact hb, A.heap_old _ _ _ (hR.ok.blt b g hb)⟩, fun _ _ _ h => (by simp [touchF, hop, Tch.hits] at h)⟩ (h6.put o.dst hd hV) (put_size _ _ _) ?_
      rw [hdst]
      exact h
    · exact h.elim
  case convert src dst x =>
    simp only [opA, hop] at h
    have look : lookA E.T s o.op (fun v => s.putF o.dst v K) → o.wp P a c.w next Q := fun h =>
      op_look hT hR hd h fun a' c' s' h1 h2 => hn a' c' s' h1 (by simp only [touchB, touchF, hop]; exact h2)
    split at h
    · rename_i e hsrc hdst
      split at h
      · rename_i e' xs he hx
        rw [ifT_iff] at h
        obtain ⟨hee, ns, hns, h⟩ := h
        rw [putF_iff] at h
        have hxv := hR.ev x
        rw [hx] at hxv
        have hu := (hT.slice src e hsrc).1
        have hue := hT.int e .u8 he
        have hud := hT.str dst hdst
        have hrun : (execOp a.eval o).run P c.w = .ok (.value (.string (strOf ns))) c.w := by
          unfold execOp
          simp only [hop, Sem.run_bind]
          rcases hxv.srcRow with ⟨hnil, hv⟩ | ⟨ad, k, us, hv, hr⟩
          · rw [hv, run_convert_bytes_string c.w src dst e none 0 0 hu hue hud]
            rw [hnil] at hns
            have : ns = [] := List.map_eq_nil_iff.1 hns.symm
            subst this
            simp [Conv.bytesToString, strOf]
          · rw [hv, run_convert_bytes_string c.w src dst e (some ad) _ k hu hue hud]
            have hsz : E.T.size e' = 1 ∨ xs = [] := by
              rw [Bool.or_eq_true, Bool.and_eq_true] at hee
              rcases hee with ⟨h1, h2⟩ | hee
              · left
                rw [← Nat.eq_of_beq_eq_true h1]
                exact Nat.eq_of_beq_eq_true h2
              · right; simpa using hee
            have hus : us = ns.map (Value.int .u8) := by
              apply List.ext_getElem?
              intro j
              rcases hsz with hs1 | hnil
              · have hlen := hr.len
                rw [hs1, Nat.mul_one, hns, List.length_map] at hlen
                rw [List.getElem?_map]
                cases hj : ns[j]? with
                | none =>
                  have := List.getElem?_eq_none_iff.1 hj
                  rw [List.getElem?_eq_none (by omega)]; rfl
                | some n =>
                  have hjl := (List.getElem?_eq_some_iff.1 hj).1
                  have hxj : xs[j]? = some (.int .u8 n) := by rw [hns, List.getElem?_map, hj]; rfl
                  obtain ⟨u, hu'⟩ : ∃ u, us[j]? = some u := ⟨_, List.getElem?_eq_getElem (by omega)⟩
                  have := hr.h j _ 0 (.int .u8 n) u hxj rfl (by rw [hs1, Nat.mul_one, Nat.add_zero]; exact hu')
                  rw [hu', this.int_inv]; rfl
              · have hlen := hr.len
                rw [hnil] at hlen hns
                have : ns = [] := List.map_eq_nil_iff.1 hns.symm
                subst this
                have : us = [] := by simpa using hlen
                subst this; rfl
            have hxl : xs.length = us.length := by
              rw [hns, hus]; simp
            rw [run_bytesToString c.w ad xs.length k ns (by
              rw [hxl]
              have := run_loadCells_list (P := P) (w := c.w) ad us hr.cell
              rw [this, hus])]
            rfl
        unfold Oper.wp
        rw [hrun]
        exact hn _ c _ (.refl c) ⟨fun b g hb _ => ⟨hb, rfl⟩, fun F g hF _ => ⟨hF, rfl⟩⟩ (hR.put o.dst hd (.str _)) (put_size _ _ _) h
      · exact h.elim
    · exact look (by rw [hop]; exact h)
  case makeSlice t nn cc =>
    simp only [opA, hop, unq] at h
    split at h
    · rename_i e d k n k' cp ht hdst hn' hc'
      obtain ⟨q1, q2, q3, q4, h⟩ := h
      rw [ifT_iff, putF_iff] at h
      obtain ⟨hk, h⟩ := h
      simp only [Bool.and_eq_true] at hk
      obtain ⟨k1, k2⟩ := hk
      have k2 := Nat.le_of_ble_eq_true k2
      obtain ⟨e1, e2, e3⟩ := elemOk_spec k1
      obtain ⟨hu, hne⟩ := hT.slice t e ht
      obtain ⟨i, z, hi, hisz, hiby, hz, hzs, hzz, hz1⟩ := hT.info e hne
      have hnv : a.eval nn = .int k n := (show V E.T c (.int k n) (a.eval nn) from hn' ▸ hR.ev nn).int_inv
      have hcv : a.eval cc = .int k' cp := (show V E.T c (.int k' cp) (a.eval cc) from hc' ▸ hR.ev cc).int_inv
      have hrun := run_make (P := P) c.w t e i z hu hi hz k k' n cp q1 q2 (by rw [hiby, Int.mul_comm]; omega) q4
      rw [hisz] at hrun
      generalize hmade : madeCells z.cells (cp.toNat * E.T.size e) = made at hrun
      have hmsz : made.size = cp.toNat * E.T.size e := by rw [← hmade, size_madeCells]
      have hnc : n.toNat ≤ cp.toNat := by omega
      have hget : ∀ j u, made.toList[j]? = some u → z.cells.toList[j % E.T.size e]? = some u := fun j u hj => by
        rw [← hmade] at hj
        have hjl := (List.getElem?_eq_some_iff.1 hj).1
        have hlt : j % z.cells.size < z.cells.size := Nat.mod_lt _ (by omega)
        simp only [madeCells, Array.getElem?_toList, Array.getElem?_map] at hj
        cases hq : (Array.range (cp.toNat * E.T.size e))[j]? with
        | none => rw [hq] at hj; cases hj
        | some v =>
          rw [hq] at hj
          have hv : v = j := by
            obtain ⟨h1, h2⟩ := Array.getElem?_eq_some_iff.1 hq
            rw [Array.getElem_range] at h2
            exact h2.symm
          subst hv
          simp only [Option.map_some, Option.some.injEq] at hj
          rw [Array.getElem?_toList, ← hzs, Array.getElem?_eq_getElem hlt, ← hj, getElem!_pos z.cells _ hlt]
      obtain ⟨h5, h6⟩ := hR.fam (E.at (some d)) (c.w.alloc (.cells made e)) (some c.w.heap.size) (by rw [A.size_alloc]; omega) rfl rfl rfl (fun g hg _ => A.heap_old _ _ _ hg) (fun g hg => by cases hg; exact ⟨by rw [A.size_alloc]; omega, .inr (Nat.le_refl _)⟩)
      have hrep : ∀ (i : Nat) (x : AV), (List.replicate n.toNat (E.T.zero e))[i]? = some x → i < n.toNat ∧ x = E.T.zero e := fun i x hx => by
        have hm := List.eq_of_mem_replicate (List.mem_of_getElem? hx)
        have hl := (List.getElem?_eq_some_iff.1 hx).1
        rw [List.length_replicate] at hl
        exact ⟨hl, hm⟩
      have hV : V E.T ⟨c.w.alloc (.cells made e), c.Z, c.bk, upd c.fm (E.at (some d)) (some c.w.heap.size)⟩ (.sl (.own (E.at (some d))) e (List.replicate n.toNat (E.T.zero e))) (.slice (some ⟨c.w.heap.size, 0, none⟩) n.toNat cp.toNat) := by
        refine own_new (c' := ⟨c.w.alloc (.cells made e), c.Z, c.bk, upd c.fm (E.at (some d)) (some c.w.heap.size)⟩) (us := made.toList.take (n.toNat * E.T.size e)) (upd_eq _ _ _) (A.heap_new _ _) List.length_replicate hnc (by simp only [maxLen]; omega) hmsz rfl ?_ ?_ ?_ ?_
        · intro u hu
          obtain ⟨j, hj⟩ := List.getElem?_of_mem (List.mem_of_mem_take hu)
          exact hz1 u (Array.mem_def.2 (List.mem_of_getElem? (hget j u hj)))
        · intro i x hx
          obtain ⟨_, rfl⟩ := hrep i x hx
          exact e2
        · intro i x hx j y hy
          obtain ⟨_, rfl⟩ := hrep i x hx
          exact (e3 j y hy).1
        · intro i x j y u hx hy hu
          obtain ⟨hil, rfl⟩ := hrep i x hx
          have hjl : j < E.T.size e := by have := (List.getElem?_eq_some_iff.1 hy).1; omega
          rw [List.getElem?_take] at hu
          split at hu
          · have := hget _ _ hu
            rw [Nat.add_comm, Nat.add_mul_mod_self_right, Nat.mod_eq_of_lt hjl] at this
            exact (hzz E.T _).2.2 j y u hy this
          · cases hu
      unfold Oper.wp
      have hrun' : (execOp a.eval o).run P c.w = .ok (.value (.slice (some ⟨c.w.heap.size, 0, none⟩) n.toNat cp.toNat)) (c.w.alloc (.cells made e)) := by
        unfold execOp
        simp only [hop, hnv, hcv, Sem.run_bind, hrun, Result.andThen_ok, Sem.run_pure]
      rw [hrun']
      show next (a.put o.dst _) _
      refine hn _ _ _ h5 ⟨fun b g hb _ => ⟨hb, A.heap_old _ _ _ (hR.ok.blt b g hb)⟩, fun _ _ _ h => (by simp [touchF, hop, Tch.hits] at h)⟩ (h6.put o.dst hd hV) (put_size _ _ _) ?_
      rw [hdst]
      exact h
    · exact h.elim
  case call cl =>
    obtain ⟨callee, args, argTypes⟩ := cl
    simp only [opA, hop, unq] at h
    cases callee with
    | invoke r m =>
      simp only [] at h
      split at h
      · rename_i t v hr
        have hvr := hR.ev r
        rw [hr] at hvr
        obtain ⟨u, hru, hvu⟩ := hvr.ifc_inv
        have fin : ∀ f x y, goA E s o.dst f (x :: args.toList.map s.ev) K → V E.T c x y → (method (P.types.size + Made.depth) t u m).run P c.w = .ok (f, y) c.w → o.wp P a c.w next Q := by
          intro f x y hgo hxy hm
          obtain ⟨hE, hcall⟩ := go_sound hC hJ hR hd (VL.cons hxy (VL.map hR args.toList)) hgo
          have hrun : (execOp a.eval o).run P c.w = .ok (.enter f (y :: args.toList.map a.eval).toArray) c.w := by
            have hm2 : #[y] ++ (#[a.eval r] ++ args.map a.eval).extract 1 (#[a.eval r] ++ args.map a.eval).size = (y :: args.toList.map a.eval).toArray := by
              apply Array.ext'
              simp
              rw [List.take_of_length_le (by simp)]
            unfold execOp
            simp only [hop, resolve, invoke, Sem.run_bind, Sem.run_pure, Result.andThen_ok]
            have h0 : (#[a.eval r] ++ args.map a.eval)[0]? = some (a.eval r) := by rw [Array.getElem?_append_left (by simp)]; rfl
            rw [h0]
            simp only [callMethod, hru, Sem.run_bind, run_program, Result.andThen_ok, hm]
            rw [← hru, hm2]
            exact hE _ _
          unfold Oper.wp
          rw [hrun]
          show Calls P f _ c.w _
          refine hcall.mono ?_
          rintro e w' ⟨v, c', s', rfl, rfl, h3, hkp, h4, h5⟩
          exact hn _ c' s' h3 ⟨fun b g' hb hh => (by simp [touchB, hop, Tch.hits] at hh), fun _ _ _ h => (by simp [touchF, hop, Tch.hits] at h)⟩ h4 (put_size _ _ _) h5
        split at h
        · rename_i f hmeth
          exact fin f v u h hvu (hT.meth t m f none hmeth u c.w)
        · rename_i f e hmeth
          split at h
          · rename_i b off
            obtain ⟨g, hg, rfl⟩ := hvu.ptr_inv
            split at h
            · rename_i e' cs hbox
              obtain ⟨g', hg', us, hblk, hVL, _⟩ := hR.h b _ hbox
              obtain rfl : g' = g := Option.some.inj (hg'.symm.trans hg)
              obtain ⟨x, y, hK, hxy, hload⟩ := load_sound (g := g') (o := 0) hT hVL h
              have hl := hload c.w (reads_of_blk hblk)
              rw [Nat.zero_add] at hl
              have hl' : (loadVar e ⟨g', off, none⟩).run P c.w = .ok y c.w := by
                simpa [Instr.loadAt, Instr.sureAddr] using hl
              exact fin f x y hK hxy (hT.meth t m f (some e) hmeth _ _ _ hl')
            · exact h.elim
          · exact h.elim
        · exact h.elim
      · exact h.elim
    | builtin b =>
      have plain : (bltA E.T s b args.toList argTypes.toList fun v => s.putF o.dst v K) → o.wp P a c.w next Q := fun h' => by
        obtain ⟨x, v, hK, hV, hrun⟩ := blt_sound hT hR o.type h'
        rw [putF_iff] at hK
        unfold Oper.wp
        have hrun' : (execOp a.eval o).run P c.w = .ok (.value v) c.w := by
          have := hrun c.w
          rw [Array.toArray_toList] at this
          unfold execOp
          simp only [hop, resolve, invoke, Sem.run_bind, Sem.run_pure, Result.andThen_ok]
          have hm : args.map a.eval = (args.toList.map a.eval).toArray := by rw [← Array.toList_map, Array.toArray_toList]
          rw [hm]
          exact this _
        rw [hrun']
        exact hn _ c _ (.refl c) ⟨fun b g hb _ => ⟨hb, rfl⟩, fun F g hF _ => ⟨hF, rfl⟩⟩ (hR.put o.dst hd hV) (put_size _ _ _) hK
      by_cases hbl : b = .len
      · subst hbl
        simp only [] at h
        split at h
        · rename_i x t hargs hts
          obtain rfl : args = #[x] := by rw [← Array.toArray_toList (xs := args), hargs]
          obtain rfl : argTypes = #[t] := by rw [← Array.toArray_toList (xs := argTypes), hts]
          have hx := hR.ev x
          have fin : ∀ (n : Nat), (Builtin.len_ #[t] o.type #[a.eval x]).run P c.w = .ok (.int .i64 n) c.w → s.putF o.dst (.int .i64 n) K → o.wp P a c.w next Q := fun n hr hK => by
            rw [putF_iff] at hK
            unfold Oper.wp
            have hrun' : (execOp a.eval o).run P c.w = .ok (.value (.int .i64 n)) c.w := by
              unfold execOp
              simp only [hop, resolve, invoke, builtin, Sem.run_bind, Sem.run_pure, Result.andThen_ok, List.map_toArray, List.map_cons, List.map_nil, hr]
            rw [hrun']
            exact hn _ c _ (.refl c) ⟨fun b g hb _ => ⟨hb, rfl⟩, fun F g hF _ => ⟨hF, rfl⟩⟩ (hR.put o.dst hd (.int _ _)) (put_size _ _ _) hK
          split at h
          · rename_i kt e b hdt hmb
            rw [hmb] at hx
            obtain ⟨g, hg, hmv⟩ := hx.mp_inv
            split at h
            · rename_i es hbox
              obtain ⟨g', hg', ns, clock, hblk, hM⟩ := hR.h b _ hbox
              obtain rfl : g' = g := Option.some.inj (hg'.symm.trans hg)
              have hlen : ∀ {es : List (AV × AV)} {ns : List MapEntry}, MapV E.T c es ns → ns.length = es.length := by
                intro es
                induction es with
                | nil => intro ns h; cases ns with
                  | nil => rfl
                  | cons _ _ => exact h.elim
                | cons p es ih => intro ns h; cases ns with
                  | nil => exact h.elim
                  | cons _ _ => simp [ih h.2.2]
              have hl := hlen hM
              refine fin es.length ?_ h
              rw [← hl]
              simp [Builtin.len_, hmv, run_underlying (hT.mp _ _ _ hdt), MapKept.run_getObj_map hblk, goInt]
            · exact h.elim
          · rename_i kt e hdt hmb
            rw [hmb] at hx
            have hmv := hx.nilmp_inv
            refine fin 0 ?_ h
            simp [Builtin.len_, hmv, run_underlying (hT.mp _ _ _ hdt), goInt]
          · exact plain h
        · exact h.elim
      by_cases hbd : b = .delete
      · subst hbd
        simp only [] at h
        split at h
        · rename_i m k t u hargs hts
          obtain rfl : args = #[m, k] := by rw [← Array.toArray_toList (xs := args), hargs]
          obtain rfl : argTypes = #[t, u] := by rw [← Array.toArray_toList (xs := argTypes), hts]
          split at h
          · rename_i kt e b hdt hmb
            split at h
            · rename_i es hbox
              rw [ifT_iff] at h
              obtain ⟨hkk, es', hdel, h⟩ := h
              rw [go_iff, putF_iff] at h
              have hm := hR.ev m
              rw [hmb] at hm
              obtain ⟨g, hg, hmv⟩ := hm.mp_inv
              obtain ⟨g', hg', ns, clock, hblk, hM⟩ := hR.h b _ hbox
              obtain rfl : g' = g := Option.some.inj (hg'.symm.trans hg)
              obtain ⟨d, hdd, hkey, hkv⟩ := desc_key hT hkk (hR.ev k)
              have hc := fun e => MapKept.run_checkKey (w := c.w) hdd hkey e 9999
              obtain ⟨res, hf, hres⟩ := mdel_now hkey hkv 0 hM hdel
              have hlt : g' < c.w.heap.size := hR.ok.blt b g' hg
              have hu := hT.mp t kt e hdt
              have keeps : ∀ o' : Obj, KeepsB c { c with w := { c.w with heap := c.w.heap.setIfInBounds g' o' } } (touchB E s o) (touchF E s o) := fun o' => by
                have hold : ∀ k, k ≠ g' → (c.w.heap.setIfInBounds g' o')[k]? = c.w.heap[k]? := fun k hk => by rw [Array.getElem?_setIfInBounds_ne (fun e => hk e.symm)]
                refine ⟨fun b' k hb' hne => ⟨hb', hold k (fun e => ?_)⟩, fun F k hF _ => ⟨hF, hold k (fun e => hR.ok.bf b F g' hg (e ▸ hF))⟩⟩
                obtain rfl := hR.ok.bb b b' g' hg (e ▸ hb')
                simp [touchB, hop, hmb, Tch.hits] at hne
              have fin : ∀ (ns' : Array MapEntry), MapV E.T c es' ns'.toList → (Builtin.delete_ #[t, u] o.type #[a.eval m, a.eval k]).run P c.w = .ok (.tuple #[]) { c.w with heap := c.w.heap.setIfInBounds g' (.map ns' clock) } → o.wp P a c.w next Q := fun ns' hns hr => by
                obtain ⟨h1, h2⟩ := hR.storeM (ns := ns') (clock := clock) hg hlt hns
                unfold Oper.wp
                have hrun' : (execOp a.eval o).run P c.w = .ok (.value (.tuple #[])) { c.w with heap := c.w.heap.setIfInBounds g' (.map ns' clock) } := by
                  unfold execOp
                  simp only [hop, resolve, invoke, builtin, Sem.run_bind, Sem.run_pure, Result.andThen_ok, List.map_toArray, List.map_cons, List.map_nil, hr]
                rw [hrun']
                exact hn _ _ _ h1 (keeps _) (h2.put o.dst hd (.tup [] [] rfl (fun i x u hx => by simp at hx))) (put_size _ _ _) h
              rcases hres with ⟨rfl, hnew⟩ | ⟨j, y, rfl, hj, hnew⟩
              · refine fin ns hnew ?_
                simp [Builtin.delete_, hmv, run_underlying hu, MapKept.run_getObj_map hblk, hc, MapKept.run_findKey hdd hf, MapKept.run_setObj_map _ hblk]
              · rw [Nat.zero_add] at hf
                have hj' : j < ns.size := by rw [Array.length_toList] at hj; exact hj
                refine fin (ns.eraseIdxIfInBounds j) ?_ ?_
                · unfold Array.eraseIdxIfInBounds
                  rw [dif_pos hj', Array.toList_eraseIdx]
                  exact hnew
                · simp [Builtin.delete_, hmv, run_underlying hu, MapKept.run_getObj_map hblk, hc, MapKept.run_findKey hdd hf, MapKept.run_setObj_map _ hblk]
            · exact h.elim
          · exact h.elim
        · exact h.elim
      by_cases hb : b = .append
      · subst hb
        simp only [] at h
        split at h
        · rename_i x y t u hargs hts
          obtain rfl : args = #[x, y] := by rw [← Array.toArray_toList (xs := args), hargs]
          obtain rfl : argTypes = #[t, u] := by rw [← Array.toArray_toList (xs := argTypes), hts]
          have run' : ∀ r w', (Builtin.append_ #[t, t] o.type #[a.eval x, a.eval y]).run P c.w = .ok r w' → t = u → (execOp a.eval o).run P c.w = .ok (.value r) w' := fun r w' hr htu => by
            subst htu
            unfold execOp
            simp only [hop, resolve, invoke, builtin, Sem.run_bind, Sem.run_pure, Result.andThen_ok, List.map_toArray, List.map_cons, List.map_nil, hr]
          split at h
          · rename_i e e0 xs0 tag e' ys ht hx hy
            rw [ifT_iff] at h
            obtain ⟨hk, hfit, h⟩ := h
            rw [putF_iff] at h
            simp only [Bool.and_eq_true, Bool.or_eq_true] at hk
            obtain ⟨⟨⟨k1, k2⟩, k3⟩, k4⟩ := hk
            have hvx := hR.ev x
            have hvy := hR.ev y
            rw [hx] at hvx
            rw [hy] at hvy
            obtain ⟨_, hrow⟩ := hvx.nlRow (F := E.at o.dst) (e := e)
            obtain ⟨r, w', c', hr, hw, hS, hkp, hR'⟩ := append_sound hT hR (ty := o.type) ht hrow hvy (k4.imp Nat.eq_of_beq_eq_true (by simp)) (Nat.le_of_ble_eq_true k2) (Nat.le_of_ble_eq_true k3) (by simpa using hfit) o.dst hd
            unfold Oper.wp
            rw [run' r w' hr (Nat.eq_of_beq_eq_true k1), ← hw]
            exact hn _ c' _ hS ⟨fun b g hb _ => hkp.1 b g hb rfl, fun _ _ _ h => (by simp [touchF, hop, Tch.hits] at h)⟩ hR' (put_size _ _ _) h
          · rename_i e F e0 xs tag e' ys ht hx hy
            rw [ifT_iff] at h
            obtain ⟨hk, hfit, h⟩ := h
            rw [putF_iff] at h
            simp only [Bool.and_eq_true, Bool.or_eq_true] at hk
            obtain ⟨⟨⟨⟨k1, k2⟩, k3⟩, k5⟩, k4⟩ := hk
            have k5 := Nat.eq_of_beq_eq_true k5
            subst k5
            have hvx := hR.ev x
            have hvy := hR.ev y
            rw [hx] at hvx
            rw [hy] at hvy
            obtain ⟨us, hrow⟩ := hvx.ownRow
            obtain ⟨r, w', c', hr, hw, hS, hkp, hR'⟩ := append_sound hT hR (ty := o.type) ht hrow hvy (k4.imp Nat.eq_of_beq_eq_true (by simp)) (Nat.le_of_ble_eq_true k2) (Nat.le_of_ble_eq_true k3) hfit o.dst hd
            unfold Oper.wp
            rw [run' r w' hr (Nat.eq_of_beq_eq_true k1), ← hw]
            exact hn _ c' _ hS ⟨fun b g hb _ => hkp.1 b g hb rfl, fun _ _ _ h => (by simp [touchF, hop, Tch.hits] at h)⟩ hR' (put_size _ _ _) h
          · exact h.elim
        · exact h.elim
      · have h' : bltA E.T s b args.toList argTypes.toList fun v => s.putF o.dst v K := by
          cases b <;> first | exact h | exact (hb rfl).elim | exact (hbl rfl).elim | exact (hbd rfl).elim
        obtain ⟨x, v, hK, hV, hrun⟩ := blt_sound hT hR o.type h'
        rw [putF_iff] at hK
        unfold Oper.wp
        have hrun' : (execOp a.eval o).run P c.w = .ok (.value v) c.w := by
          have := hrun c.w
          rw [Array.toArray_toList] at this
          unfold execOp
          simp only [hop, resolve, invoke, Sem.run_bind, Sem.run_pure, Result.andThen_ok]
          have hm : args.map a.eval = (args.toList.map a.eval).toArray := by rw [← Array.toList_map, Array.toArray_toList]
          rw [hm]
          exact this _
        rw [hrun']
        exact hn _ c _ (.refl c) ⟨fun b g hb _ => ⟨hb, rfl⟩, fun F g hF _ => ⟨hF, rfl⟩⟩ (hR.put o.dst hd hV) (put_size _ _ _) hK
    | value f =>
      simp only [] at h
      split at h
      · rename_i g xs ds hf
        have hvf := hR.ev f
        rw [hf] at hvf
        obtain ⟨us, vs, hfv, h1, h2⟩ := hvf.fn_inv
        have hargs : VL E.T c (xs ++ args.toList.map s.ev ++ ds) (us ++ args.toList.map a.eval ++ vs) := (h1.append (VL.map hR args.toList)).append h2
        obtain ⟨hE, hcall⟩ := go_sound hC hJ hR hd hargs h
        have hrun : (execOp a.eval o).run P c.w = .ok (.enter g (us ++ args.toList.map a.eval ++ vs).toArray) c.w := by
          have hm : (us.toArray ++ args.map a.eval) ++ vs.toArray = (us ++ args.toList.map a.eval ++ vs).toArray := by
            rw [← Array.toArray_toList (xs := args.map a.eval), Array.toList_map]
            simp
          unfold execOp
          simp only [hop, resolve, hfv, Deferred.ofValue, invoke, Sem.run_bind, Sem.run_pure, Result.andThen_ok]
          rw [hm]
          exact hE _ _
        unfold Oper.wp
        rw [hrun]
        show Calls P g _ c.w _
        refine hcall.mono ?_
        rintro e w' ⟨v, c', s', rfl, rfl, h3, hkp, h4, h5⟩
        refine hn _ c' s' h3 ⟨fun b g' hb hh => ?_, fun F g' hF hh => ?_⟩ h4 (put_size _ _ _) h5
        · cases hj : E.J g with
          | none => exact (hkp hj).1 b g' hb rfl
          | some j => simp [touchB, hop, hf, hj, Tch.hits] at hh
        · cases hj : E.J g with
          | none =>
            refine (hkp hj).2 F g' hF ?_
            simp only [touchF, hop, hf, hj] at hh
            exact hh
          | some j => simp [touchF, hop, hf, hj, Tch.hits] at hh
      · exact h.elim
  all_goals exact op_look hT hR hd (by simp only [opA, hop] at h; rw [hop]; exact h) (fun a' c' s' h1 h2 => hn a' c' s' h1 ⟨fun b g hb _ => h2.1 b g hb rfl, fun F g hF _ => h2.2 F g hF rfl⟩)
end
end Go.Proofs.YtmlgkojmbnjfbaaDoor.A
