/- == of structs and arrays whose cells are plain. -/
import Derived.Test.YtmlgkojmbnjfbaaDoorA14
import Derived.DeepKeys
namespace Go.Proofs.YtmlgkojmbnjfbaaDoor.A
open Go
variable {P : Program}
def eqOffs (T : Tab) : Nat → List (Nat × TypeId) → Nat → Bool
  | o, [], m => Nat.beq o m
  | o, (p, u) :: fs, m => Nat.beq p o && eqOffs T (o + T.size u) fs m
/-- Can == of a type be told by its cells? -/
def eqChk (P : Program) (T : Tab) : Nat → TypeId → Bool
  | 0, _ => false
  | n + 1, t => match T.desc t with
    | .int _ => true
    | .bool => true
    | .str => true
    | .struct fs => (!P.stoodInHeld t && (P.fieldsOf t).toList.all (fun f => f.name != "_")) && (eqOffs T 0 fs (T.size t) && all? (fun p => eqChk P T n p.2) fs)
    | .arr _ e => eqChk P T n e
    | _ => false
def wrT (T : Tab) (t : TypeId) (us : List Value) : Value := match (T.desc t).isAgg with
  | some true => .agg us.toArray
  | _ => us.headD undef
theorem eqvL_append : ∀ {a a' r r' : List AV} {b : Bool}, a.length = a'.length → AV.eqvL (a ++ r) (a' ++ r') = some b → ∃ b1 b2, AV.eqvL a a' = some b1 ∧ AV.eqvL r r' = some b2 ∧ b = (b1 && b2)
  | [], [], r, r', b, _, h => ⟨true, b, rfl, h, rfl⟩
  | [], _ :: _, _, _, _, h, _ => by simp at h
  | _ :: _, [], _, _, _, h, _ => by simp at h
  | x :: a, y :: a', r, r', b, hl, h => by
    simp only [List.cons_append, AV.eqvL] at h
    split at h
    · rename_i p q hp hq
      cases h
      obtain ⟨b1, b2, h1, h2, rfl⟩ := eqvL_append (by simpa using hl) hq
      exact ⟨p && b1, b2, by simp [AV.eqvL, hp, h1], h2, by simp [Bool.and_assoc]⟩
    · cases h
theorem fitB_len : ∀ {ks : List LK} {xs : List AV}, fitB ks xs = true → xs.length = ks.length
  | [], [], _ => rfl
  | [], _ :: _, h => by simp [fitB] at h
  | k :: ks, [], h => by cases k <;> simp [fitB] at h
  | k :: ks, x :: xs, h => by
    cases k <;> cases x <;> simp [fitB] at h
    · simp [fitB_len h.2]
    · simp [fitB_len h]
    · simp [fitB_len h]
theorem fitB_append : ∀ {ks ks' : List LK} {xs : List AV}, fitB (ks ++ ks') xs = true → fitB ks (xs.take ks.length) = true ∧ fitB ks' (xs.drop ks.length) = true
  | [], _, _, h => ⟨by simp [fitB], h⟩
  | k :: ks, _, [], h => by cases k <;> simp [fitB] at h
  | k :: ks, ks', x :: xs, h => by
    cases k <;> cases x <;> simp [fitB] at h ⊢
    · exact ⟨⟨h.1, (fitB_append h.2).1⟩, (fitB_append h.2).2⟩
    · exact fitB_append h
    · exact fitB_append h
theorem run_partT {T : Tab} (hT : TabOk P T) {n : Nat} {u : TypeId} {ks : List LK} (hk : kindsA T n u = some ks) {us : List Value} {o : Nat} (h : o + ks.length ≤ us.length) (w : World) : (part u us.toArray o).run P w = .ok (wrT T u ((us.drop o).take ks.length)) w := by
  have hkn := kinds_known hk
  have agg : (T.desc u).isAgg = some true → (part u us.toArray o).run P w = .ok (wrT T u ((us.drop o).take ks.length)) w := fun ha => by
    unfold part wrT
    rw [Sem.run_bind, run_isAgg hT ha, ha]
    simp only [Result.andThen_ok, if_true, Sem.run_bind, run_size hT hkn.1, Sem.run_pure]
    congr 2
    apply Array.ext'
    simp [hkn.2]
  have leaf : (T.desc u).isAgg = some false → ks.length = 1 → (part u us.toArray o).run P w = .ok (wrT T u ((us.drop o).take ks.length)) w := fun ha h1 => by
    unfold part wrT
    rw [Sem.run_bind, run_isAgg hT ha, ha, h1]
    have : o < us.length := by omega
    have e : (us.drop o).take 1 = [us[o]] := by rw [List.drop_eq_getElem_cons this]; rfl
    rw [e]
    simp [this]
  cases n with
  | zero => cases hk
  | succ n =>
    unfold kindsA at hk
    split at hk
    · rename_i ks' hk0
      split at hk
      · cases hk
        unfold kinds0 at hk0
        split at hk0
        case h_4 fs hd => exact agg (by rw [hd]; rfl)
        case h_5 len e hd => exact agg (by rw [hd]; rfl)
        case h_6 => cases hk0
        all_goals
          rename_i hd
          cases hk0
          exact leaf (by rw [hd]; rfl) rfl
      · cases hk
    · cases hk
theorem VL.cut {T' : Tab} {c : Cx} {xs : List AV} {us : List Value} (h : VL T' c xs us) (k : Nat) : VL T' c (xs.take k) (us.take k) ∧ VL T' c (xs.drop k) (us.drop k) := by
  refine ⟨⟨by rw [List.length_take, List.length_take, h.1], fun i x u hx hu => ?_⟩, ⟨by rw [List.length_drop, List.length_drop, h.1], fun i x u hx hu => ?_⟩⟩
  · rw [List.getElem?_take] at hx hu
    split at hx
    · rename_i hi
      rw [if_pos hi] at hu
      exact h.2 i x u hx hu
    · cases hx
  · rw [List.getElem?_drop] at hx hu
    exact h.2 _ x u hx hu
theorem eq_fields {T T' : Tab} (hT : TabOk P T) {c : Cx} {n d : Nat} {us vs : List Value} (w : World)
    (IH : ∀ u ks, kindsA T n u = some ks → eqChk P T n u = true → ∀ xs ys us vs b, fitB ks xs = true → fitB ks ys = true → VL T' c xs us → VL T' c ys vs → AV.eqvL xs ys = some b → (Op.equalIn (d + n) u (wrT T u us) (wrT T u vs)).run P w = .ok b w) :
    ∀ (fl : List Field) (o : Nat) (r : List LK) (xs ys : List AV) (b : Bool), kindsL (kindsA T n) o (fl.map fun f => (f.offset, f.type)) = some r → (fl.all fun f => f.name != "_") = true → all? (fun p : Nat × TypeId => eqChk P T n p.2) (fl.map fun f => (f.offset, f.type)) = true →
      o + r.length ≤ us.length → us.length = vs.length → fitB r xs = true → fitB r ys = true → VL T' c xs ((us.drop o).take r.length) → VL T' c ys ((vs.drop o).take r.length) → AV.eqvL xs ys = some b → (Op.eqFields (d + n) us.toArray vs.toArray fl).run P w = .ok b w
  | [], o, r, xs, ys, b, hk, _, _, _, _, hx, hy, _, _, h => by
    cases hk
    have h1 := fitB_len hx
    have h2 := fitB_len hy
    have : xs = [] := List.length_eq_zero_iff.1 h1
    subst this
    have : ys = [] := List.length_eq_zero_iff.1 h2
    subst this
    cases h
    simp [Op.eqFields]
  | f :: fl, o, r, xs, ys, b, hk, hn, hc, hlen, huv, hx, hy, hX, hY, h => by
    simp only [List.map_cons] at hk hc
    unfold kindsL at hk
    split at hk
    · rename_i ks hb hku
      have ho := Nat.eq_of_beq_eq_true hb
      split at hk
      · rename_i r' hr
        cases hk
        simp only [List.all_cons, Bool.and_eq_true, bne_iff_ne, ne_eq] at hn
        simp only [all?, Bool.and_eq_true] at hc
        have fx := fitB_append hx
        have fy := fitB_append hy
        rw [List.length_append] at hlen hX hY
        have lx : (xs.take ks.length).length = (ys.take ks.length).length := by
          rw [fitB_len fx.1, fitB_len fy.1]
        rw [← List.take_append_drop ks.length xs, ← List.take_append_drop ks.length ys] at h
        obtain ⟨b1, b2, e1, e2, rfl⟩ := eqvL_append lx h
        have cx := hX.cut ks.length
        have cy := hY.cut ks.length
        have t1 : ∀ l : List Value, (((l.drop o).take (ks.length + r'.length)).take ks.length) = (l.drop o).take ks.length := fun l => by rw [List.take_take, Nat.min_eq_left (by omega)]
        have t2 : ∀ l : List Value, (((l.drop o).take (ks.length + r'.length)).drop ks.length) = (l.drop (o + ks.length)).take r'.length := fun l => by
          rw [List.drop_take, List.drop_drop, Nat.add_sub_cancel_left]
        rw [t1, t2] at cx
        rw [t1, t2] at cy
        have p1 := run_partT hT hku (us := us) (o := f.offset) (by rw [ho]; omega) w
        have p2 := run_partT hT hku (us := vs) (o := f.offset) (by rw [ho]; omega) w
        rw [ho] at p1 p2
        have q := IH f.type ks hku hc.1 _ _ _ _ b1 fx.1 fy.1 cx.1 cy.1 e1
        have rest := eq_fields hT w IH fl (o + ks.length) r' _ _ b2 hr hn.2 hc.2 (by omega) huv fx.2 fy.2 cx.2 cy.2 e2
        simp only [Op.eqFields, hn.1, ne_eq, not_false_eq_true, if_true, Sem.run_bind, ho, p1, p2, q, Result.andThen_ok]
        cases b1
        · simp
        · simpa using rest
      · cases hk
    · cases hk
theorem eq_items {T T' : Tab} (hT : TabOk P T) {c : Cx} {n d : Nat} {e : TypeId} {ks : List LK} {us vs : List Value} (w : World) (hk : kindsA T n e = some ks)
    (IH : ∀ xs ys us vs b, fitB ks xs = true → fitB ks ys = true → VL T' c xs us → VL T' c ys vs → AV.eqvL xs ys = some b → (Op.equalIn (d + n) e (wrT T e us) (wrT T e vs)).run P w = .ok b w) :
    ∀ (k i : Nat) (xs ys : List AV) (b : Bool), (i + k) * ks.length ≤ us.length → us.length = vs.length → fitB (List.replicate k ks).flatten xs = true → fitB (List.replicate k ks).flatten ys = true →
      VL T' c xs ((us.drop (i * ks.length)).take (k * ks.length)) → VL T' c ys ((vs.drop (i * ks.length)).take (k * ks.length)) → AV.eqvL xs ys = some b → (Op.eqItems (d + n) e (P.cellsOf e) us.toArray vs.toArray (List.range' i k)).run P w = .ok b w
  | 0, i, xs, ys, b, _, _, hx, hy, _, _, h => by
    have h1 := fitB_len hx
    have h2 := fitB_len hy
    have : xs = [] := List.length_eq_zero_iff.1 (by simpa using h1)
    subst this
    have : ys = [] := List.length_eq_zero_iff.1 (by simpa using h2)
    subst this
    cases h
    simp [Op.eqItems]
  | k + 1, i, xs, ys, b, hlen, huv, hx, hy, hX, hY, h => by
    rw [List.replicate_succ, List.flatten_cons] at hx hy
    have fx := fitB_append hx
    have fy := fitB_append hy
    have lx : (xs.take ks.length).length = (ys.take ks.length).length := by rw [fitB_len fx.1, fitB_len fy.1]
    rw [← List.take_append_drop ks.length xs, ← List.take_append_drop ks.length ys] at h
    obtain ⟨b1, b2, e1, e2, rfl⟩ := eqvL_append lx h
    have cx := hX.cut ks.length
    have cy := hY.cut ks.length
    have hkk : (k + 1) * ks.length = ks.length + k * ks.length := by rw [Nat.succ_mul]; omega
    have hii : (i + 1) * ks.length = i * ks.length + ks.length := by rw [Nat.succ_mul]
    have hlen' : i * ks.length + (ks.length + k * ks.length) ≤ us.length := by
      rw [← hkk, ← Nat.add_mul]; exact hlen
    rw [hkk] at cx cy
    have t1 : ∀ l : List Value, (((l.drop (i * ks.length)).take (ks.length + k * ks.length)).take ks.length) = (l.drop (i * ks.length)).take ks.length := fun l => by rw [List.take_take, Nat.min_eq_left (by omega)]
    have t2 : ∀ l : List Value, (((l.drop (i * ks.length)).take (ks.length + k * ks.length)).drop ks.length) = (l.drop ((i + 1) * ks.length)).take (k * ks.length) := fun l => by
      rw [List.drop_take, List.drop_drop, Nat.add_sub_cancel_left, hii]
    rw [t1, t2] at cx
    rw [t1, t2] at cy
    have hkn := kinds_known hk
    have hce : P.cellsOf e = ks.length := (cells_size hT hkn.1).trans hkn.2
    have p1 := run_partT hT hk (us := us) (o := i * ks.length) (by omega) w
    have p2 := run_partT hT hk (us := vs) (o := i * ks.length) (by omega) w
    have q := IH _ _ _ _ b1 fx.1 fy.1 cx.1 cy.1 e1
    have rest := eq_items hT w hk IH k (i + 1) _ _ b2 (by rw [show i + 1 + k = i + (k + 1) by omega]; exact hlen) huv fx.2 fy.2 cx.2 cy.2 e2
    rw [hce] at rest ⊢
    rw [List.range'_succ]
    simp only [Op.eqItems, Sem.run_bind, p1, p2, q, Result.andThen_ok]
    cases b1
    · simp
    · simpa using rest
theorem fields_of {t : TypeId} {fs : Array Field} (h : P.underlying t = some (.struct fs)) : P.fieldsOf t = fs := by simp [Program.fieldsOf, h]
theorem eq_run {T T' : Tab} (hT : TabOk P T) {c : Cx} : ∀ (n : Nat) (t : TypeId) (ks : List LK), kindsA T n t = some ks → eqChk P T n t = true → ∀ (xs ys : List AV) (us vs : List Value) (b : Bool), fitB ks xs = true → fitB ks ys = true → VL T' c xs us → VL T' c ys vs → AV.eqvL xs ys = some b →
    ∀ d w, (Op.equalIn (d + n) t (wrT T t us) (wrT T t vs)).run P w = .ok b w
  | 0, _, _, h, _, _, _, _, _, _, _, _, _, _, _, _, _ => by cases h
  | n + 1, t, ks, hk, hc, xs, ys, us, vs, b, hx, hy, hX, hY, h, d, w => by
    have hkk := hk
    have hkn := kinds_known hk
    unfold kindsA at hk
    unfold eqChk at hc
    split at hk
    · rename_i ks' hk0
      split at hk
      · cases hk
        unfold kinds0 at hk0
        have two : ∀ {k : LK}, ks = [k] → ∃ x y u v, xs = [x] ∧ ys = [y] ∧ us = [u] ∧ vs = [v] ∧ V T' c x u ∧ V T' c y v := by
          rintro k rfl
          have h1 := fitB_len hx
          have h2 := fitB_len hy
          have h3 := hX.1
          have h4 := hY.1
          match xs, ys, us, vs, h1, h2, h3, h4 with
          | [x], [y], [u], [v], _, _, _, _ => exact ⟨x, y, u, v, rfl, rfl, rfl, rfl, hX.2 0 _ _ rfl rfl, hY.2 0 _ _ rfl rfl⟩
        split at hk0
        · rename_i k hd
          cases hk0
          obtain ⟨x, y, u, v, rfl, rfl, rfl, rfl, hu, hv⟩ := two rfl
          cases x <;> simp [fitB] at hx
          cases y <;> simp [fitB] at hy
          rename_i k1 a k2 a'
          obtain rfl := kind_eq hx
          obtain rfl := kind_eq hy
          simp [AV.eqvL, AV.eqv, show kindA k k = true by cases k <;> rfl] at h
          subst h
          rw [hu.int_inv, hv.int_inv]
          unfold wrT
          rw [hd]
          exact run_equalIn_int w _ t k k a a' (hT.int _ _ hd)
        · rename_i hd
          cases hk0
          obtain ⟨x, y, u, v, rfl, rfl, rfl, rfl, hu, hv⟩ := two rfl
          cases x <;> simp [fitB] at hx
          cases y <;> simp [fitB] at hy
          simp [AV.eqvL, AV.eqv] at h
          subst h
          rw [hu.bool_inv, hv.bool_inv]
          unfold wrT
          rw [hd]
          exact run_equalIn_bool' w _ t _ _ (hT.bool _ hd)
        · rename_i hd
          cases hk0
          obtain ⟨x, y, u, v, rfl, rfl, rfl, rfl, hu, hv⟩ := two rfl
          cases x <;> simp [fitB] at hx
          cases y <;> simp [fitB] at hy
          simp [AV.eqvL, AV.eqv] at h
          subst h
          rw [hu.str_inv, hv.str_inv, beq_toListBytes]
          unfold wrT
          rw [hd]
          exact run_equalIn_string w _ t _ _ (hT.str _ hd)
        · rename_i fs hd
          rw [hd] at hc
          simp only [Bool.and_eq_true, Bool.not_eq_true'] at hc
          obtain ⟨fields, hu, hfs, _⟩ := hT.struct t fs hd
          have hff := fields_of hu
          unfold wrT
          rw [hd]
          show (Op.equalIn (d + n + 1) t (.agg us.toArray) (.agg vs.toArray)).run P w = _
          rw [run_equalIn_struct w (d + n) t _ _ (by rw [hff]; exact hu) hc.1.1, hff]
          have hl := fitB_len hx
          have hl' := fitB_len hy
          have h1 := hX.1
          have h2 := hY.1
          refine eq_fields (T' := T') (c := c) hT w (fun u ks hku hcu xs ys us vs b a1 a2 a3 a4 a5 => eq_run hT n u ks hku hcu xs ys us vs b a1 a2 a3 a4 a5 d w) fields.toList 0 ks xs ys b (by rw [hfs]; exact hk0) (by rw [hff] at hc; exact hc.1.2) (by rw [hfs]; exact hc.2.2) (by omega) (by omega) hx hy ?_ ?_ h
          · rw [List.drop_zero, List.take_of_length_le (by omega)]; exact hX
          · rw [List.drop_zero, List.take_of_length_le (by omega)]; exact hY
        · rename_i len e hd
          rw [hd] at hc
          split at hk0
          · rename_i ke hke
            cases hk0
            obtain ⟨hu, _⟩ := hT.arr t len e hd
            obtain ⟨i, z, hi, _⟩ := hT.info e (kinds_known hke).1
            unfold wrT
            rw [hd]
            show (Op.equalIn (d + n + 1) t (.agg us.toArray) (.agg vs.toArray)).run P w = _
            rw [run_equalIn_array w (d + n) _ _ hu hi, List.range_eq_range']
            have hl := fitB_len hx
            have hl' := fitB_len hy
            have h1 := hX.1
            have h2 := hY.1
            have hfl : (List.replicate len ke).flatten.length = len * ke.length := by simp
            refine eq_items (T' := T') (c := c) hT w hke (fun xs ys us vs b a1 a2 a3 a4 a5 => eq_run hT n e ke hke hc xs ys us vs b a1 a2 a3 a4 a5 d w) len 0 xs ys b (by rw [Nat.zero_add]; omega) (by omega) hx hy ?_ ?_ h
            · rw [Nat.zero_mul, List.drop_zero, List.take_of_length_le (by omega)]; exact hX
            · rw [Nat.zero_mul, List.drop_zero, List.take_of_length_le (by omega)]; exact hY
          · cases hk0
        · cases hk0
      · cases hk
    · cases hk
/-- A table with the types whose == is told by their cells. -/
theorem tab_eq {T : Tab} (h : TabOk P T) (eqK : TypeId → Option (List LK)) (hK : ∀ t ks, eqK t = some ks → kindsA T 8 t = some ks ∧ eqChk P T 8 t = true ∧ (T.desc t).isAgg = some true ∧ P.eqGuardType P.depth t = false) : TabOk P { T with eqT := eqK } where
  int := h.int
  bool := h.bool
  str := h.str
  slice := h.slice
  struct := h.struct
  arr := h.arr
  ptr := h.ptr
  func := h.func
  iface := h.iface
  mp := h.mp
  info := h.info
  meth := h.meth
  wide := h.wide
  eqs := by
    intro t ks ht c xs ys us vs b fx fy hX hY hb w
    obtain ⟨k1, k2, k3, k4⟩ := hK t ks ht
    refine ⟨?_, fun op px py => run_eqGuard_agg w op t px py _ _ k4⟩
    have := eq_run (T' := { T with eqT := eqK }) h 8 t ks k1 k2 xs ys us vs b fx fy hX hY hb 9992 w
    unfold wrT at this
    rw [k3] at this
    exact this
end Go.Proofs.YtmlgkojmbnjfbaaDoor.A
